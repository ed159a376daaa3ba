/-
Part 15 of the proof that stands in YteoamepgonpdlaaGreatPbRow, with what it needs from the parts ahead; the parts of this text: Rp, Se, Qj, Qk, Ql, Qm, Pp, Qn.
-/
import Derived.Test.YteoamepgonpdlaaGreatPb14
/-!
  Chains: what a disk reads, in plain words.
-/
namespace Go.Proofs.YteoamepgonpdlaaGreat
set_option linter.unusedVariables false
set_option linter.unusedSimpArgs false
set_option maxRecDepth 10000
open Go.RowKit Go.Proofs
section
variable {bits room : Nat} {L : List Dsk}
theorem down_known (h : CS bits room L) {nm : List UInt8} {k : Nat} (hd : Dn L nm k) (h0 : ∃ d,dk L nm = some d) : ∀ j,j ≤ k → ∃ e,dk L (downTo L j nm) = some e
 | 0,_=>h0
 | j + 1,hj=>by
   obtain ⟨e,he⟩:=down_known h hd h0 j (by omega)
   have hat:=dn_at hd j (by omega)
   rw [downTo_succ,he]
   simp only
   generalize hm : k - j = m at hat
   cases hat with
   | gone hg=>rw [he] at hg; cases hg
   | base _ _=>omega
   | step h1 h2 _ =>
     rw [he] at h1
     injection h1 with h1
     subst h1
     exact h.kn e (dk_get he).1 h2
theorem down_end (h : CS bits room L) {nm : List UInt8} {k : Nat} (hd : Dn L nm k) (h0 : ∃ d,dk L nm = some d) : downTo L (k + 1) nm = []:=by
 obtain ⟨e,he⟩:=down_known h hd h0 k (Nat.le_refl _)
 have hat:=dn_at hd k (Nat.le_refl _)
 rw [Nat.sub_self] at hat
 rw [downTo_succ,he]
 simp only
 cases hat with
 | gone hg=>rw [he] at hg; cases hg
 | base h1 h2 =>
   rw [he] at h1
   injection h1 with h1
   subst h1
   exact h2
theorem known_ne (h : CS bits room L) {n : List UInt8} (hn : ∃ e,dk L n = some e) : n ≠ []:=by
 obtain ⟨e,he⟩:=hn
 rw [← (dk_get he).2]
 exact h.ne e (dk_get he).1
end
section
variable {bits : Nat} {L : List Dsk} {c : Nat}
theorem seenL_snd : ∀ (ns : List (List UInt8)) (i : Nat),(∀ n,n ∈ ns → ∃ e,dk L n = some e) → ((seenL bits L c ns i).2 = 0 ∧ (seenL bits L c ns i).1 = List.replicate (16 * 2 ^ bits) 0) ∨ (i < (seenL bits L c ns i).2 ∧ (seenL bits L c ns i).2 ≤ i + ns.length)
 | [],_,_=>.inl ⟨rfl,rfl⟩
 | n :: ns,i,h=>by
   obtain ⟨e,he⟩:=h n (List.mem_cons_self ..)
   have ih:=seenL_snd ns (i + 1) fun x hx=>h x (List.mem_cons_of_mem _ hx)
   unfold seenL
   rw [he]
   simp only
   split
   · right
     rw [List.length_cons]
     show i < i + 1 ∧ i + 1 ≤ i + (ns.length + 1)
     omega
   · rcases ih with ih | ih
     · exact .inl ih
     · right
       rw [List.length_cons]
       omega
theorem seenL_head {n : List UInt8} {ns : List (List UInt8)} {i : Nat} {d : Dsk} (hd : dk L n = some d) (h : c < d.im.t.length ∧ (d.im.t.getD c s0).1 ≠ 0) : seenL bits L c (n :: ns) i = (clus d.im c none,i + 1):=by
 unfold seenL
 rw [hd]
 simp only
 rw [if_pos h]
theorem seenL_tail {n : List UInt8} {ns : List (List UInt8)} {i : Nat} {d : Dsk} (hd : dk L n = some d) (h : ¬ (c < d.im.t.length ∧ (d.im.t.getD c s0).1 ≠ 0)) : seenL bits L c (n :: ns) i = seenL bits L c ns (i + 1):=by
 conv=>lhs; unfold seenL
 rw [hd]
 simp only
 rw [if_neg h]
/-- Who is a Hole reads what is below. -/
theorem cseen_hole {nm : List UInt8} {kk : Nat} {d : Dsk} (hd : dk L nm = some d) (h : ¬ (c < d.im.t.length ∧ (d.im.t.getD c s0).1 ≠ 0)) : cseen bits L nm kk c = belY bits L nm kk c:=by
 unfold cseen belY
 rw [seenL_tail hd h]
end
section
variable {bits room : Nat} {L : List Dsk}
theorem CS.kn_all (h : CS bits room L) {nm : List UInt8} (h0 : ∃ d,dk L nm = some d) : ∀ n,n ∈ nm :: bl L (dpt L nm) nm → ∃ e,dk L n = some e:=fun n hn=>by
 rcases List.mem_cons.1 hn with rfl | hn
 · exact h0
 · exact bl_known h.toChOK (h.dep nm).1 n hn
theorem awy_le (h : CS bits room L) {nm : List UInt8} {d : Dsk} (hd : dk L nm = some d) {c : Nat} : awy bits L nm c ≤ dpt L nm + 1:=by
 have h2 : awy bits L nm c = (seenL bits L c (nm :: bl L (dpt L nm) nm) 0).2:=rfl
 have h3:=bl_len (h.dep nm).1
 rcases seenL_snd (bits:=bits) (c:=c) _ 0 (h.kn_all ⟨d,hd⟩) with h1 | h1
 · omega
 · rw [List.length_cons] at h1
   omega
end
theorem iIns_zero {s : ImS} (hO : ImOK s) {n : Nat} (hn : n ≤ iall s) : iIns s 0 (n : Int) = 0:=by
 unfold iIns
 rw [if_neg (by omega),if_neg (by omega)]
theorem rdC_ok {bits room : Nat} {L : List Dsk} (h : CS bits room L) {nm : List UInt8} {d : Dsk} (hd : dk L nm = some d) {n : Nat} (hn : n ≤ iall d.im) : rdC bits L nm 0 (n : Int) = (crdK bits L nm (dpt L nm) 0 n,0):=by
 unfold rdC
 rw [hd]
 simp only
 rw [if_pos (iIns_zero (h.ims d (dk_get hd).1).1 hn)]
 rfl
theorem iall_one {bits room : Nat} {L : List Dsk} (h : CS bits room L) {nm : List UInt8} {d : Dsk} (hd : dk L nm = some d) : iall d.im = d.im.t.length * 2 ^ bits:=by
 unfold iall
 rw [(h.ims d (dk_get hd).1).2.1]
/-! ### what is written to one is not seen in those that do not stand on it -/
def Lm (L : List Dsk) (t : List UInt8) (L' : List Dsk) : Prop:=L' = L ∨ ∃ d im,dk L t = some d ∧ Like d.im im ∧ L' = lim L t im none
section
variable {bits room : Nat} {L L' : List Dsk} {t n : List UInt8}
theorem wrC_lm (h : CS bits room L) (nm : List UInt8) (a : Int) (bs : List UInt8) : Lm L nm (wrC bits L nm a bs).L:=by
 unfold wrC
 cases h0 : dk L nm with
 | none=>exact .inl rfl
 | some d =>
   simp only
   split
   · exact .inl rfl
   · rename_i h1
     split
     · exact .inl rfl
     · rename_i h2
       have h2 : iIns d.im a ((bs.length / 16 : Nat) : Int) = 0:=Decidable.byContradiction h2
       have e:=(iIns_pos h2).1
       rw [e] at h2
       exact .inr ⟨d,_,h0,iwS_like (h.ims d (dk_get h0).1).1 (by omega) h2 _,rfl⟩
theorem zrC_lm (h : CS bits room L) (nm : List UInt8) (a l : Int) : Lm L nm (zrC bits L nm a l).L:=by
 unfold zrC
 cases h0 : dk L nm with
 | none=>exact .inl rfl
 | some d =>
   simp only
   split
   · exact .inl rfl
   · rename_i h2
     have h2 : iIns d.im a l = 0:=Decidable.byContradiction h2
     obtain ⟨e1,e2⟩:=iIns_pos h2
     rw [e1,e2] at h2
     exact .inr ⟨d,_,h0,izS_like (h.ims d (dk_get h0).1).1 h2 _,rfl⟩
theorem dsC_lm (h : CS bits room L) (nm : List UInt8) (a l : Int) : Lm L nm (dsC L nm a l).L:=by
 unfold dsC
 cases h0 : dk L nm with
 | none=>exact .inl rfl
 | some d =>
   simp only
   split
   · exact .inl rfl
   · rename_i h2
     have h2 : iIns d.im a l = 0:=Decidable.byContradiction h2
     obtain ⟨e1,e2⟩:=iIns_pos h2
     rw [e1,e2] at h2
     exact .inr ⟨d,_,h0,(dsI (h.ims d (dk_get h0).1).1 (iIns_all h2) _ (Nat.le_refl _)).like,rfl⟩
end
end Go.Proofs.YteoamepgonpdlaaGreat
/-!
  Chains: what Write, Zero and Discard make a disk read, sector by sector.
-/
namespace Go.Proofs.YteoamepgonpdlaaGreat
set_option linter.unusedVariables false
set_option linter.unusedSimpArgs false
set_option maxRecDepth 10000
open Go.RowKit Go.Proofs
/-! ### sectors of bytes -/
def sec (x : List UInt8) (j : Nat) : List UInt8:=(x.take (j * 16 + 16)).drop (j * 16)
theorem sec_get (x : List UInt8) (j i : Nat) : (sec x j)[i]? = if i < 16 then x[j * 16 + i]? else none:=by
 unfold sec
 rw [List.getElem?_drop,List.getElem?_take]
 by_cases h : i < 16
 · rw [if_pos h,if_pos (by omega)]
 · rw [if_neg h,if_neg (by omega)]
theorem laid_get {X : List UInt8} {off n : Nat} {ys : List UInt8} (h1 : off + n ≤ X.length) (h2 : ys.length = n) (m : Nat) : (laid X off n ys)[m]? = if m < off then X[m]? else if m < off + n then ys[m - off]? else X[m]?:=by
 unfold laid
 have e1 : (X.take off).length = off:=by rw [List.length_take]; omega
 have e2 : ys.take n = ys:=List.take_of_length_le (by omega)
 rw [e2]
 by_cases c1 : m < off
 · rw [if_pos c1,List.append_assoc,List.getElem?_append_left (by omega),List.getElem?_take,if_pos c1]
 · rw [if_neg c1]
   by_cases c2 : m < off + n
   · rw [if_pos c2,List.append_assoc,List.getElem?_append_right (by omega),e1,List.getElem?_append_left (by omega)]
   · rw [if_neg c2,List.getElem?_append_right (by rw [List.length_append]; omega),List.length_append,e1,h2,List.getElem?_drop]
     congr 1
     omega
/-- A piece laid over a cluster,sector by sector: q is where the cluster begins. -/
theorem sec_laid {X bs : List UInt8} {t W a l j pa pb pt : Nat} (hX : X.length = W) (hb : bs.length = 16 * l) (hj : j * 16 + 16 ≤ W) (e1 : pa = 16 * a - 16 * t) (e2 : pb = min (16 * (a + l) - 16 * t) W) (e3 : pt = 16 * t + pa - 16 * a) (hp : pa ≤ pb) (hq : 16 * t < 16 * (a + l)) :
   sec (laid X pa (pb - pa) ((bs.take (pt + pb - pa)).drop pt)) j = if a ≤ t + j ∧ t + j < a + l then sec bs (t + j - a) else sec X j:=by
 have hlen : ((bs.take (pt + pb - pa)).drop pt).length = pb - pa:=by
   rw [List.length_drop,List.length_take]
   omega
 refine List.ext_getElem? fun i=>?_
 rw [sec_get,laid_get (by omega) hlen]
 by_cases hi : i < 16
 · rw [if_pos hi]
   by_cases c : a ≤ t + j ∧ t + j < a + l
   · rw [if_pos c,sec_get,if_pos hi,if_neg (by omega),if_pos (by omega),List.getElem?_drop,List.getElem?_take,if_pos (by omega)]
     congr 1
     omega
   · rw [if_neg c,sec_get,if_pos hi]
     by_cases c2 : j * 16 + i < pa
     · rw [if_pos c2]
     · rw [if_neg c2,if_neg (by omega)]
 · rw [if_neg hi]
   split
   · rw [sec_get,if_neg hi]
   · rw [sec_get,if_neg hi]
theorem crdP_sec (bits : Nat) (L : List Dsk) (nm : List UInt8) (kk s : Nat) : crdP bits L nm kk s = sec (cseen bits L nm kk (s / 2 ^ bits)) (s % 2 ^ bits):=rfl
/-! ### clusters -/
section
variable {bits room : Nat} {L : List Dsk} {nm : List UInt8} {d : Dsk}
theorem belY_len (h : CS bits room L) (hd : dk L nm = some d) (c : Nat) : (belY bits L nm (dpt L nm) c).length = 16 * 2 ^ bits:=seenL_eq h.toChOK c _ _ fun n hn=>h.kn_all ⟨d,hd⟩ n (List.mem_cons_of_mem _ hn)
end
/-! ### pieces of a disk's clusters -/
theorem pc_range {W a l : Nat} (hW : isW W) (hl : 0 < l) {c : Nat} : (16 * a / W ≤ c ∧ c < 16 * a / W + pcN W a l) ↔ (16 * a < (c + 1) * W ∧ c * W < 16 * (a + l)):=by
 have hp : 0 < W:=by rcases hW with h | h | h | h <;> omega
 have k1 : 16 * a / W ≤ c ↔ 16 * a < (c + 1) * W:=by
   rw [← Nat.lt_succ_iff,Nat.succ_eq_add_one,Nat.div_lt_iff_lt_mul hp]
 constructor
 · rintro ⟨h1,h2⟩
   have:=(pcN_iff hW (a:=a) (l:=l) (k:=c - 16 * a / W)).2 (by omega)
   rw [show 16 * a / W + (c - 16 * a / W) = c by omega] at this
   exact ⟨k1.1 h1,this.2⟩
 · rintro ⟨h1,h2⟩
   have h1:=k1.2 h1
   refine ⟨h1,?_⟩
   have:=(pcN_iff hW (a:=a) (l:=l) (k:=c - 16 * a / W)).1 ⟨hl,by rw [show 16 * a / W + (c - 16 * a / W) = c by omega]; exact h2⟩
   omega
/-- A cluster behind a piece of it was laid over,sector by sector. -/
theorem sec_piece {X bs : List UInt8} {b a l c : Nat} (hb : b ≤ 3) (hX : X.length = 16 * 2 ^ b) (hbs : bs.length = 16 * l) (hin : 16 * a < (c + 1) * (16 * 2 ^ b) ∧ c * (16 * 2 ^ b) < 16 * (a + l)) {j : Nat} (hj : j < 2 ^ b) :
   sec (laid X (pce (16 * 2 ^ b) a l (c - 16 * a / (16 * 2 ^ b))).a ((pce (16 * 2 ^ b) a l (c - 16 * a / (16 * 2 ^ b))).b - (pce (16 * 2 ^ b) a l (c - 16 * a / (16 * 2 ^ b))).a) (bsP bs (pce (16 * 2 ^ b) a l (c - 16 * a / (16 * 2 ^ b))))) j =
     if a ≤ c * 2 ^ b + j ∧ c * 2 ^ b + j < a + l then sec bs (c * 2 ^ b + j - a) else sec X j:=by
 have hp:=pow_le8 hb
 have hW : 0 < 16 * 2 ^ b:=by omega
 have hc : 16 * a / (16 * 2 ^ b) ≤ c:=by
   rw [← Nat.lt_succ_iff,Nat.succ_eq_add_one,Nat.div_lt_iff_lt_mul hW]
   exact hin.1
 have hcc : 16 * a / (16 * 2 ^ b) + (c - 16 * a / (16 * 2 ^ b)) = c:=by omega
 have ht : c * (16 * 2 ^ b) = 16 * (c * 2 ^ b):=Nat.mul_left_comm ..
 have ht2 : (c + 1) * (16 * 2 ^ b) = 16 * (c * 2 ^ b) + 16 * 2 ^ b:=by rw [Nat.succ_mul,ht]
 unfold bsP
 refine sec_laid (t:=c * 2 ^ b) (W:=16 * 2 ^ b) hX hbs (by omega) ?_ ?_ ?_ ?_ (by omega)
 · show 16 * a - (16 * a / (16 * 2 ^ b) + (c - 16 * a / (16 * 2 ^ b))) * (16 * 2 ^ b) = _
   rw [hcc,ht]
 · show min (16 * (a + l) - (16 * a / (16 * 2 ^ b) + (c - 16 * a / (16 * 2 ^ b))) * (16 * 2 ^ b)) (16 * 2 ^ b) = _
   rw [hcc,ht]
 · show (16 * a / (16 * 2 ^ b) + (c - 16 * a / (16 * 2 ^ b))) * (16 * 2 ^ b) + (16 * a - (16 * a / (16 * 2 ^ b) + (c - 16 * a / (16 * 2 ^ b))) * (16 * 2 ^ b)) - 16 * a = 16 * (c * 2 ^ b) + (16 * a - (16 * a / (16 * 2 ^ b) + (c - 16 * a / (16 * 2 ^ b))) * (16 * 2 ^ b)) - 16 * a
   rw [hcc,ht]
 · show 16 * a - (16 * a / (16 * 2 ^ b) + (c - 16 * a / (16 * 2 ^ b))) * (16 * 2 ^ b) ≤ min (16 * (a + l) - (16 * a / (16 * 2 ^ b) + (c - 16 * a / (16 * 2 ^ b))) * (16 * 2 ^ b)) (16 * 2 ^ b)
   rw [hcc,ht]
   omega
/-! ### Write -/
section
variable {bits room : Nat} {L : List Dsk} {nm : List UInt8}
end
/-! ### Zero -/
section
variable {bits room : Nat} {L : List Dsk} {nm : List UInt8}
end
end Go.Proofs.YteoamepgonpdlaaGreat
/-!
  The program's image and the document's: what both have; one cell after the other.
-/
namespace Go.Proofs.YteoamepgonpdlaaGreat
set_option linter.unusedVariables false
set_option linter.unusedSimpArgs false
set_option maxRecDepth 10000
open Go.RowKit Go.Proofs
def idM (m : Rim) (c : Nat) : Int:=ceI ((mC m).getD c (mkCe 0 0))
theorem idM_at {m : Rim} {c : Nat} (hc : c < (mC m).length) : idM m c = ceI (mC m)[c]:=by
 unfold idM
 rw [List.getD_eq_getElem?_getD,List.getElem?_eq_getElem hc]
 rfl
/-- An image of the program,and one of the document,that have the same. -/
structure RI (n : Nat) (s : ImS) (m : Rim) : Prop where
 im : ImOK s
 ok : MOK n m
 wd : wid s = 16 * n
 len : (mC m).length = s.t.length
 rm : mR m = (s.l.length : Nat)
 kd : ∀ c,c < s.t.length → kdM m c = (s.t.getD c s0).1
 ct : ∀ c,c < s.t.length → kdM m c = 1 → clus s c none = (mD m).getD (idM m c).toNat []
 inj : ∀ c d,c < s.t.length → d < s.t.length → kdM m c = 1 → kdM m d = 1 → idM m c = idM m d → c = d
section
variable {n : Nat} {s : ImS} {m : Rim}
theorem RI.id_lt (h : RI n s m) {c : Nat} (hc : c < s.t.length) (hk : kdM m c = 1) : ∃ i : Nat,idM m c = (i : Int) ∧ i < (mD m).length:=by
 have hc2 : c < (mC m).length:=by rw [h.len]; exact hc
 rw [kdM_at hc2] at hk
 rw [idM_at hc2]
 exact h.ok.ix _ (List.getElem_mem hc2) hk
theorem RI.refs (h : RI n s m) {c : Nat} (hc : c < s.t.length) (hk : kdM m c = 1) : refsC (mC m) (idM m c) = 1:=by
 have hc2 : c < (mC m).length:=by rw [h.len]; exact hc
 have key : ∀ k,k ≤ (mC m).length → refsC ((mC m).take k) (idM m c) = if c < k then 1 else 0:=fun k=>by
   induction k with
   | zero=>intro _; rfl
   | succ k ih =>
     intro hk2
     have hk3 : k < (mC m).length:=hk2
     rw [refsC_succ hk3,ih (by omega)]
     by_cases e : k = c
     · subst e
       rw [if_neg (Nat.lt_irrefl _),if_pos (Nat.lt_succ_self _),if_pos ⟨by rw [← kdM_at hk3]; exact hk,(idM_at hk3).symm⟩]
     · have hn : ¬ (ceK (mC m)[k] = 1 ∧ ceI (mC m)[k] = idM m c):=fun ⟨q1,q2⟩=>by
         rw [← kdM_at hk3] at q1
         rw [← idM_at hk3] at q2
         exact e (h.inj k c (by rw [← h.len]; exact hk3) hc q1 hk q2)
       rw [if_neg hn]
       by_cases e2 : c < k
       · rw [if_pos e2,if_pos (by omega)]
       · rw [if_neg e2,if_neg (by omega)]
 have:=key _ (Nat.le_refl _)
 rw [List.take_length,if_pos hc2] at this
 exact this
theorem RI.own (h : RI n s m) {c : Nat} (hc : c < s.t.length) : qown m c = decide (kdM m c = 1):=by
 have hc2 : c < (mC m).length:=by rw [h.len]; exact hc
 unfold qown
 rw [List.getElem?_eq_getElem hc2]
 simp only
 rw [← kdM_at hc2,← idM_at hc2]
 by_cases hk : kdM m c = 1
 · rw [h.refs hc hk,decide_eq_true hk]
   rfl
 · rw [decide_eq_false hk,Bool.false_and]
theorem RI.needs (h : RI n s m) {c : Nat} (hc : c < s.t.length) : iNeeds s c = decide (kdM m c ≠ 1):=by
 rcases needs_slot h.im hc with ⟨h1,h2⟩ | ⟨h1,k,h2,_⟩
 · rw [h1,h.kd c hc]
   rcases h2 with h2 | h2 <;> rw [h2] <;> rfl
 · have e : s.t.getD c s0 = ((1 : Int),(k : Int),true):=by rw [List.getD_eq_getElem?_getD,h2]; rfl
   rw [h1,h.kd c hc,e]
   rfl
/-! ### how many are free -/
def ksN (m : Rim) (N : Nat) : List Nat:=(List.range N).filter fun c=>decide (kdM m c = 1)
theorem ksN_mem {m : Rim} {N c : Nat} : c ∈ ksN m N ↔ c < N ∧ kdM m c = 1:=by
 unfold ksN
 rw [List.mem_filter,List.mem_range,decide_eq_true_iff]
theorem nodup_mapN {f : Nat → Nat} {l : List Nat} (hl : l.Nodup) (hf : ∀ a b,a ∈ l → b ∈ l → f a = f b → a = b) : (l.map f).Nodup:=by
 unfold List.Nodup at hl ⊢
 rw [List.pairwise_map]
 exact hl.imp_of_mem fun ha hb hne e=>hne (hf _ _ ha hb e)
theorem ksN_nodup (m : Rim) (N : Nat) : (ksN m N).Nodup:=List.Pairwise.sublist List.filter_sublist List.nodup_range
theorem zeros_ones : ∀ l : List Int,(∀ x,x ∈ l → x = 0 ∨ x = 1) → zeros l + (l.filter fun x=>decide (x = 1)).length = l.length
 | [],_=>rfl
 | x :: l,h=>by
   have ih:=zeros_ones l fun y hy=>h y (List.mem_cons_of_mem _ hy)
   unfold zeros at ih ⊢
   rcases h x (List.mem_cons_self ..) with e | e
   · subst e
     simp only [List.filter_cons,List.length_cons]
     simp
     omega
   · subst e
     simp only [List.filter_cons,List.length_cons]
     simp
     omega
def onesN (l : List Int) : List Nat:=(List.range l.length).filter fun h=>decide (l[h]? = some 1)
theorem ones_len : ∀ l : List Int,(onesN l).length = (l.filter fun x=>decide (x = 1)).length:=fun l=>by
 have key : ∀ k,k ≤ l.length → ((List.range k).filter fun h=>decide (l[h]? = some 1)).length = ((l.take k).filter fun x=>decide (x = 1)).length:=fun k=>by
   induction k with
   | zero=>intro _; rfl
   | succ k ih =>
     intro hk
     have hk1 : k < l.length:=hk
     rw [List.range_succ,List.filter_append,List.length_append,ih (by omega),List.take_succ_eq_append_getElem hk1,List.filter_append,List.length_append]
     congr 1
     by_cases e : l[k] = 1
     · simp [List.getElem?_eq_getElem hk1,e]
     · simp [List.getElem?_eq_getElem hk1,e]
 have:=key _ (Nat.le_refl _)
 rw [List.take_length] at this
 exact this
theorem usedN_len (m : Rim) : ∀ k,usedN m k = ((List.range k).filter fun i : Nat=>decide (refsC (mC m) (i : Nat) > 0)).length
 | 0=>rfl
 | k + 1=>by
   rw [usedN,usedN_len m k,List.range_succ,List.filter_append,List.length_append]
   congr 1
   by_cases e : refsC (mC m) (k : Nat) > 0
   · rw [if_pos e]; simp [e]
   · rw [if_neg e]; simp [e]
theorem refsC_pos {cs : List Cell} {id : Int} : 0 < refsC cs id ↔ ∃ c ∈ cs,ceK c = 1 ∧ ceI c = id:=by
 unfold refsC
 rw [List.length_pos_iff_exists_mem]
 constructor
 · rintro ⟨c,hc⟩
   obtain ⟨h1,h2⟩:=List.mem_filter.1 hc
   simp only [Bool.and_eq_true,decide_eq_true_eq] at h2
   exact ⟨c,h1,h2⟩
 · rintro ⟨c,h1,h2,h3⟩
   refine ⟨c,List.mem_filter.2 ⟨h1,?_⟩⟩
   rw [decide_eq_true h2,decide_eq_true h3]
   rfl
theorem RI.used (h : RI n s m) : usedN m (mD m).length = (ksN m s.t.length).length:=by
 rw [usedN_len,show (ksN m s.t.length).length = ((ksN m s.t.length).map fun c=>(idM m c).toNat).length from (List.length_map ..).symm]
 apply List.Perm.length_eq
 rw [List.perm_ext_iff_of_nodup (List.Pairwise.sublist List.filter_sublist List.nodup_range) (nodup_mapN (ksN_nodup m _) fun a b ha hb e=>by
   obtain ⟨a1,a2⟩:=ksN_mem.1 ha
   obtain ⟨b1,b2⟩:=ksN_mem.1 hb
   obtain ⟨i,i1,_⟩:=h.id_lt a1 a2
   obtain ⟨j,j1,_⟩:=h.id_lt b1 b2
   have e : (idM m a).toNat = (idM m b).toNat:=e
   rw [i1,j1,Int.toNat_natCast,Int.toNat_natCast] at e
   exact h.inj a b a1 b1 a2 b2 (by rw [i1,j1,e]))]
 intro i
 rw [List.mem_filter,List.mem_range,decide_eq_true_iff,List.mem_map]
 constructor
 · rintro ⟨hi,hr⟩
   obtain ⟨c,hc,k1,k2⟩:=refsC_pos.1 hr
   obtain ⟨j,hj,rfl⟩:=List.getElem_of_mem hc
   refine ⟨j,ksN_mem.2 ⟨by rw [← h.len]; exact hj,by rw [kdM_at hj]; exact k1⟩,?_⟩
   rw [idM_at hj,k2,Int.toNat_natCast]
 · rintro ⟨c,hc,e⟩
   obtain ⟨c1,c2⟩:=ksN_mem.1 hc
   obtain ⟨j,j1,j2⟩:=h.id_lt c1 c2
   have ej : j = i:=by rw [j1,Int.toNat_natCast] at e; exact e
   subst ej
   have:=h.refs c1 c2
   rw [j1] at this
   exact ⟨j2,by omega⟩
theorem RI.ones (h : RI n s m) : (onesN s.l).length = (ksN m s.t.length).length:=by
 rw [show (ksN m s.t.length).length = ((ksN m s.t.length).map fun c=>(s.t.getD c s0).2.1.toNat).length from (List.length_map ..).symm]
 have slot : ∀ c,c ∈ ksN m s.t.length → ∃ k : Nat,s.t[c]? = some ((1 : Int),(k : Int),true) ∧ s.l[k]? = some 1 ∧ (s.t.getD c s0).2.1.toNat = k:=fun c hc=>by
   obtain ⟨c1,c2⟩:=ksN_mem.1 hc
   rw [h.kd c c1,List.getD_eq_getElem?_getD,List.getElem?_eq_getElem c1] at c2
   have c2 : (s.t[c]).1 = 1:=c2
   rcases h.im.slot c _ (List.getElem?_eq_getElem c1) with e | e | ⟨k,e,e2,_⟩
   · rw [e] at c2; exact absurd c2 (by decide)
   · rw [e] at c2; exact absurd c2 (by decide)
   · refine ⟨k,by rw [List.getElem?_eq_getElem c1,e],e2,?_⟩
     rw [List.getD_eq_getElem?_getD,List.getElem?_eq_getElem c1,e]
     rfl
 apply List.Perm.length_eq
 unfold onesN
 rw [List.perm_ext_iff_of_nodup (List.Pairwise.sublist List.filter_sublist List.nodup_range) (nodup_mapN (ksN_nodup m _) fun a b ha hb e=>by
   obtain ⟨k,k1,_,k3⟩:=slot a ha
   obtain ⟨j,j1,_,j3⟩:=slot b hb
   have e : (s.t.getD a s0).2.1.toNat = (s.t.getD b s0).2.1.toNat:=e
   rw [k3,j3] at e
   subst e
   exact h.im.inj a b _ k1 j1)]
 intro i
 rw [List.mem_filter,List.mem_range,decide_eq_true_iff,List.mem_map]
 constructor
 · rintro ⟨hi,hr⟩
   obtain ⟨c,hc⟩:=h.im.used i hr
   have c1 : c < s.t.length:=(List.getElem?_eq_some_iff.1 hc).1
   have e : s.t.getD c s0 = ((1 : Int),(i : Int),true):=by rw [List.getD_eq_getElem?_getD,hc]; rfl
   refine ⟨c,ksN_mem.2 ⟨c1,by rw [h.kd c c1,e]⟩,?_⟩
   rw [e]
   exact Int.toNat_natCast i
 · rintro ⟨c,hc,e⟩
   obtain ⟨k,_,k2,k3⟩:=slot c hc
   have e : (s.t.getD c s0).2.1.toNat = i:=e
   rw [k3] at e
   subst e
   exact ⟨(List.getElem?_eq_some_iff.1 k2).1,k2⟩
theorem RI.free (h : RI n s m) : freeM m = (zeros s.l : Nat):=by
 have h1:=zeros_ones s.l fun x hx=>by
   obtain ⟨i,hi,rfl⟩:=List.getElem_of_mem hx
   exact h.im.cnt i _ (List.getElem?_eq_getElem hi)
 rw [← ones_len,h.ones] at h1
 unfold freeM
 rw [h.used,h.rm]
 omega
/-! ### one cell is another one -/
theorem kdM_set (c : Nat) (x : Cell) (d : Nat) (hc : c < (mC m).length) : kdM (setM m c x) d = if d = c then ceK x else kdM m d:=by
 unfold kdM
 show ceK (((mC m).set c x).getD d (mkCe 0 0)) = _
 rw [List.getD_eq_getElem?_getD,List.getD_eq_getElem?_getD,List.getElem?_set]
 by_cases e : c = d
 · subst e
   rw [if_pos rfl,if_pos rfl,if_pos hc]
   rfl
 · rw [if_neg e,if_neg (Ne.symm e)]
theorem idM_set (c : Nat) (x : Cell) (d : Nat) (hc : c < (mC m).length) : idM (setM m c x) d = if d = c then ceI x else idM m d:=by
 unfold idM
 show ceI (((mC m).set c x).getD d (mkCe 0 0)) = _
 rw [List.getD_eq_getElem?_getD,List.getD_eq_getElem?_getD,List.getElem?_set]
 by_cases e : c = d
 · subst e
   rw [if_pos rfl,if_pos rfl,if_pos hc]
   rfl
 · rw [if_neg e,if_neg (Ne.symm e)]
theorem getD_far {s s' : ImS} {d : Nat} (h : s'.t[d]? = s.t[d]?) : s'.t.getD d s0 = s.t.getD d s0:=by rw [List.getD_eq_getElem?_getD,List.getD_eq_getElem?_getD,h]
theorem RI.set {s' : ImS} {c : Nat} {q : Slt} (h : RI n s m) (hs : Sett s s' c q) (hc : c < s.t.length) (hq : q = s0 ∨ q = sZr) : RI n s' (setM m c (mkCe q.1 0)):=by
 have hc2 : c < (mC m).length:=by rw [h.len]; exact hc
 have hq1 : q.1 ≠ 1:=by rcases hq with e | e <;> rw [e] <;> decide
 have far : ∀ d,kdM (setM m c (mkCe q.1 0)) d = 1 → d ≠ c ∧ kdM m d = 1:=fun d hd=>by
   rw [kdM_set c _ d hc2] at hd
   by_cases e : d = c
   · rw [if_pos e] at hd; exact absurd hd hq1
   · rw [if_neg e] at hd; exact ⟨e,hd⟩
 refine ⟨hs.ok,h.ok.set c hq1,?_,?_,?_,fun d hd=>?_,fun d hd hk=>?_,fun d e hd he hkd hke hi=>?_⟩
 · rw [← h.wd]; unfold wid; rw [hs.bits]
 · show ((mC m).set c _).length = _
   rw [List.length_set,hs.tl,h.len]
 · show mR m = _
   rw [hs.ll,h.rm]
 · rw [hs.tl] at hd
   rw [kdM_set c _ d hc2]
   by_cases e : d = c
   · subst e
     rw [if_pos rfl,List.getD_eq_getElem?_getD,hs.there]
     rfl
   · rw [if_neg e,h.kd d hd,getD_far (hs.far d e).1]
 · rw [hs.tl] at hd
   obtain ⟨e,hk1⟩:=far d hk
   rw [(hs.far d e).2,h.ct d hd hk1,idM_set c _ d hc2,if_neg e]
 · rw [hs.tl] at hd he
   obtain ⟨e1,k1⟩:=far d hkd
   obtain ⟨e2,k2⟩:=far e hke
   rw [idM_set c _ d hc2,idM_set c _ e hc2,if_neg e1,if_neg e2] at hi
   exact h.inj d e hd he k1 k2 hi
theorem RI.put {s' : ImS} {p : Pce} {bs y x : List UInt8} (h : RI n s m) (hs : Put s s' p bs y) (hc : p.c < s.t.length) (hx : laid (clus s p.c (some y)) p.a (p.b - p.a) bs = x) (hxl : x.length = 16 * n) (hd : (mD m).length + 1 ≤ 100000) : RI n s' (putM m p.c x):=by
 have hc2 : p.c < (mC m).length:=by rw [h.len]; exact hc
 have hown:=h.own hc
 have hok:=h.ok.put p.c hxl hd
 have w1 : wid s' = 16 * n:=by rw [← h.wd]; unfold wid; rw [hs.bits]
 have w2 : (mC (putM m p.c x)).length = s'.t.length:=by rw [putM_cl,hs.tl,h.len]
 have w3 : mR (putM m p.c x) = (s'.l.length : Nat):=by rw [hs.ll,← h.rm]; unfold putM; split <;> rfl
 have k1 : (s'.t.getD p.c s0).1 = 1:=by
   have hc3 : p.c < s'.t.length:=by rw [hs.tl]; exact hc
   rcases needs_slot hs.ok hc3 with ⟨e1,_⟩ | ⟨_,k,e2,_⟩
   · rw [hs.dat] at e1; cases e1
   · rw [List.getD_eq_getElem?_getD,e2]; rfl
 have th : clus s' p.c none = x:=(hs.there none).trans hx
 by_cases hk : kdM m p.c = 1
 · rw [decide_eq_true hk] at hown
   have e : putM m p.c x = mkM (mN m) (mR m) (mC m) (mS m) ((mD m).set (idM m p.c).toNat x):=by unfold putM; rw [hown]; rfl
   obtain ⟨i,i1,i2⟩:=h.id_lt hc hk
   rw [e] at hok w2 w3 ⊢
   refine ⟨hs.ok,hok,w1,w2,w3,fun d hd=>?_,fun d hd hkd=>?_,fun d e hd he hkd hke hi=>?_⟩
   · rw [hs.tl] at hd
     show kdM m d = _
     by_cases e : d = p.c
     · subst e; rw [k1,hk]
     · rw [h.kd d hd,getD_far (hs.far d e).1]
   · rw [hs.tl] at hd
     have hkd : kdM m d = 1:=hkd
     show clus s' d none = ((mD m).set (idM m p.c).toNat x).getD (idM m d).toNat []
     by_cases e : d = p.c
     · subst e
       rw [th,i1,Int.toNat_natCast,List.getD_eq_getElem?_getD,List.getElem?_set_self i2]
       rfl
     · obtain ⟨j,j1,j2⟩:=h.id_lt hd hkd
       have hij : i ≠ j:=fun q=>e (h.inj d p.c hd hc hkd hk (by rw [i1,j1,q]))
       rw [(hs.far d e).2,h.ct d hd hkd,i1,j1,Int.toNat_natCast,Int.toNat_natCast,List.getD_eq_getElem?_getD,List.getD_eq_getElem?_getD,List.getElem?_set_ne hij]
   · rw [hs.tl] at hd he
     exact h.inj d e hd he hkd hke hi
 · rw [decide_eq_false hk] at hown
   have e : putM m p.c x = setM (mkM (mN m) (mR m) (mC m) (mS m) (mD m ++ [x])) p.c (mkCe 1 ((mD m).length : Nat)):=by unfold putM; rw [hown]
   rw [e] at hok w2 w3 ⊢
   have kk : ∀ d,kdM (setM (mkM (mN m) (mR m) (mC m) (mS m) (mD m ++ [x])) p.c (mkCe 1 ((mD m).length : Nat))) d = if d = p.c then 1 else kdM m d:=fun d=>kdM_set (m:=mkM (mN m) (mR m) (mC m) (mS m) (mD m ++ [x])) p.c _ d hc2
   have ii : ∀ d,idM (setM (mkM (mN m) (mR m) (mC m) (mS m) (mD m ++ [x])) p.c (mkCe 1 ((mD m).length : Nat))) d = if d = p.c then (((mD m).length : Nat) : Int) else idM m d:=fun d=>idM_set (m:=mkM (mN m) (mR m) (mC m) (mS m) (mD m ++ [x])) p.c _ d hc2
   refine ⟨hs.ok,hok,w1,w2,w3,fun d hd=>?_,fun d hd hkd=>?_,fun d e hd he hkd hke hi=>?_⟩
   · rw [hs.tl] at hd
     rw [kk]
     by_cases e : d = p.c
     · subst e; rw [if_pos rfl,k1]
     · rw [if_neg e,h.kd d hd,getD_far (hs.far d e).1]
   · rw [hs.tl] at hd
     rw [kk] at hkd
     rw [ii]
     show clus s' d none = (mD m ++ [x]).getD _ []
     by_cases e : d = p.c
     · subst e
       rw [if_pos rfl,th,Int.toNat_natCast,List.getD_eq_getElem?_getD,List.getElem?_concat_length]
       rfl
     · rw [if_neg e] at hkd ⊢
       obtain ⟨j,j1,j2⟩:=h.id_lt hd hkd
       rw [(hs.far d e).2,h.ct d hd hkd,j1,Int.toNat_natCast,List.getD_eq_getElem?_getD,List.getD_eq_getElem?_getD,List.getElem?_append_left j2]
   · rw [hs.tl] at hd he
     rw [kk] at hkd hke
     rw [ii,ii] at hi
     by_cases e1 : d = p.c <;> by_cases e2 : e = p.c
     · rw [e1,e2]
     · rw [if_neg e2] at hke hi
       rw [if_pos e1] at hi
       obtain ⟨j,j1,j2⟩:=h.id_lt he hke
       rw [j1] at hi
       omega
     · rw [if_neg e1] at hkd hi
       rw [if_pos e2] at hi
       obtain ⟨j,j1,j2⟩:=h.id_lt hd hkd
       rw [j1] at hi
       omega
     · rw [if_neg e1] at hkd hi
       rw [if_neg e2] at hke hi
       exact h.inj d e hd he hkd hke hi
end
end Go.Proofs.YteoamepgonpdlaaGreat
/-!
  The program's image and the document's: Write, Zero, Discard, cluster by cluster.
-/
namespace Go.Proofs.YteoamepgonpdlaaGreat
set_option linter.unusedVariables false
set_option linter.unusedSimpArgs false
set_option maxRecDepth 10000
open Go.RowKit Go.Proofs
theorem insTo_eq (n c a l : Nat) : ∀ k,insTo n c a l k = min k (a + l - c * n) - min k (a - c * n)
 | 0=>by simp [insTo]
 | k + 1=>by
   rw [insTo,insTo_eq n c a l k]
   generalize c * n = t
   split <;> omega
/-- All sectors of some bytes,one behind the other. -/
theorem sec_all {Z : List UInt8} {f : Nat → List UInt8} {g : Nat → List UInt8} (hg0 : g 0 = []) (hg : ∀ k,g (k + 1) = g k ++ f k) : ∀ n,16 * n ≤ Z.length → (∀ k,k < n → sec Z k = f k) → Z.take (16 * n) = g n
 | 0,_,_=>by rw [hg0]; rfl
 | n + 1,hn,hf=>by
   rw [hg,← sec_all hg0 hg n (by omega) fun k hk=>hf k (by omega),← hf n (by omega)]
   unfold sec
   rw [show 16 * (n + 1) = n * 16 + 16 by omega,show 16 * n = n * 16 by omega]
   have e : (Z.take (n * 16 + 16)).take (n * 16) ++ (Z.take (n * 16 + 16)).drop (n * 16) = Z.take (n * 16 + 16):=List.take_append_drop ..
   rw [List.take_take,Nat.min_eq_left (by omega)] at e
   exact e.symm
section
variable {n : Nat} {s : ImS} {m : Rim}
theorem RI.pow (h : RI n s m) : n = 2 ^ s.bits:=by
 have:=h.wd
 unfold wid at this
 omega
theorem RI.all (h : RI n s m) : iall s = n * (mC m).length:=by
 unfold iall
 rw [h.len,h.pow,Nat.mul_comm]
theorem RI.insEq (h : RI n s m) (a l : Int) : iIns s a l = insE n (mC m).length a l:=by
 unfold iIns insE
 rw [h.all]
 generalize ((n * (mC m).length : Nat) : Int) = N
 by_cases h1 : l < 0
 · rw [if_pos h1,if_pos h1]
 · rw [if_neg h1,if_neg h1]
   by_cases h2 : a < 0
   · rw [if_pos (.inl h2),if_pos h2]
   · rw [if_neg h2]
     by_cases h3 : N < a
     · rw [if_pos h3,if_pos (by omega)]
     · rw [if_neg h3]
       by_cases h4 : N - a < l
       · rw [if_pos h4,if_pos (by omega)]
       · rw [if_neg h4,if_neg (by omega)]
/-- Which pieces are those of a cluster,and how great. -/
theorem RI.piece (h : RI n s m) {a l : Nat} {c : Nat} : (0 < insTo n c a l n ↔ 16 * a / wid s ≤ c ∧ c < 16 * a / wid s + pcN (wid s) a l) ∧
   (16 * a / wid s ≤ c → c < 16 * a / wid s + pcN (wid s) a l → (pce (wid s) a l (c - 16 * a / wid s)).c = c ∧ (pce (wid s) a l (c - 16 * a / wid s)).b - (pce (wid s) a l (c - 16 * a / wid s)).a = 16 * insTo n c a l n ∧ 16 * a < (c + 1) * wid s ∧ c * wid s < 16 * (a + l)):=by
 have hW:=wid_isW h.im.bits
 have n1:=h.ok.n1
 have e1 : c * wid s = 16 * (c * n):=by rw [h.wd,Nat.mul_left_comm]
 have e2 : (c + 1) * wid s = 16 * (c * n) + 16 * n:=by rw [Nat.succ_mul,e1,h.wd]
 have hi:=insTo_eq n c a l n
 have key : 0 < l → ((16 * a / wid s ≤ c ∧ c < 16 * a / wid s + pcN (wid s) a l) ↔ (16 * a < (c + 1) * wid s ∧ c * wid s < 16 * (a + l))):=fun hl=>pc_range hW hl
 have hp : l = 0 → pcN (wid s) a l = 0:=fun e=>if_pos e
 rw [e1,e2] at key
 generalize hq : 16 * a / wid s = c0 at *
 refine ⟨?_,fun g1 g2=>?_⟩
 · rcases Nat.eq_zero_or_pos l with hl | hl
   · have:=hp hl
     constructor
     · intro g; omega
     · rintro ⟨g1,g2⟩; omega
   · rw [key hl]
     omega
 · have hl : 0 < l:=Nat.pos_of_ne_zero fun e=>by have:=hp e; omega
   have g:=(key hl).1 ⟨g1,g2⟩
   rw [e1,e2]
   have hcc : c0 + (c - c0) = c:=by omega
   refine ⟨?_,?_,g.1,g.2⟩
   · show 16 * a / wid s + (c - c0) = c
     rw [hq]; exact hcc
   · show min (16 * (a + l) - (16 * a / wid s + (c - c0)) * wid s) (wid s) - (16 * a - (16 * a / wid s + (c - c0)) * wid s) = _
     rw [hq,hcc,e1,hi,h.wd]
     omega
theorem RI.lay (h : RI n s m) {a l c : Nat} {bs X : List UInt8} (hbs : bs.length = 16 * l) (hX : X.length = 16 * n) (hin : 16 * a < (c + 1) * wid s ∧ c * wid s < 16 * (a + l)) (hlen : (laid X (pce (wid s) a l (c - 16 * a / wid s)).a ((pce (wid s) a l (c - 16 * a / wid s)).b - (pce (wid s) a l (c - 16 * a / wid s)).a) (bsP bs (pce (wid s) a l (c - 16 * a / wid s)))).length = 16 * n) :
   laid X (pce (wid s) a l (c - 16 * a / wid s)).a ((pce (wid s) a l (c - 16 * a / wid s)).b - (pce (wid s) a l (c - 16 * a / wid s)).a) (bsP bs (pce (wid s) a l (c - 16 * a / wid s))) = ldTo n c a X bs n:=by
 have hp:=h.pow
 have hb:=h.im.bits
 unfold wid at hin hlen ⊢
 subst hp
 have e:=sec_all (Z:=laid X (pce (16 * 2 ^ s.bits) a l (c - 16 * a / (16 * 2 ^ s.bits))).a ((pce (16 * 2 ^ s.bits) a l (c - 16 * a / (16 * 2 ^ s.bits))).b - (pce (16 * 2 ^ s.bits) a l (c - 16 * a / (16 * 2 ^ s.bits))).a) (bsP bs (pce (16 * 2 ^ s.bits) a l (c - 16 * a / (16 * 2 ^ s.bits))))) (f:=ldP (2 ^ s.bits) c a X bs) (g:=ldTo (2 ^ s.bits) c a X bs) rfl (fun _=>rfl) (2 ^ s.bits) (Nat.le_of_eq hlen.symm) fun k hk=>by
   rw [sec_piece hb hX hbs hin hk]
   unfold ldP sec
   by_cases g : a ≤ c * 2 ^ s.bits + k ∧ c * 2 ^ s.bits + k < a + l
   · rw [if_pos g,if_pos (by generalize c * 2 ^ s.bits = t at *; omega)]
     rw [Nat.mul_comm (c * 2 ^ s.bits + k - a) 16]
   · rw [if_neg g,if_neg (by generalize c * 2 ^ s.bits = t at *; omega),Nat.mul_comm k 16]
 rw [← e]
 exact (List.take_of_length_le (Nat.le_of_eq hlen)).symm
/-- How many pieces lie ahead of a cluster. -/
def ahd (c0 p k : Nat) : Nat:=min (k - c0) p
theorem ahd_in {c0 p k : Nat} (h1 : c0 ≤ k) (h2 : k < c0 + p) : ahd c0 p k = k - c0 ∧ ahd c0 p (k + 1) = k - c0 + 1 ∧ k - c0 < p:=by unfold ahd; omega
theorem ahd_out {c0 p k : Nat} (h : ¬ (c0 ≤ k ∧ k < c0 + p)) : ahd c0 p (k + 1) = ahd c0 p k:=by unfold ahd; omega
theorem ahd_all {c0 p N : Nat} (h : p = 0 ∨ c0 + p ≤ N) : ahd c0 p N = p:=by unfold ahd; omega
theorem RI.fits (h : RI n s m) {a l : Nat} (hall : a + l ≤ iall s) : pcN (wid s) a l = 0 ∨ 16 * a / wid s + pcN (wid s) a l ≤ s.t.length:=by
 rcases Nat.eq_zero_or_pos (pcN (wid s) a l) with e | e
 · exact .inl e
 · right
   have:=(pce_c h.im hall (k:=pcN (wid s) a l - 1) (by omega)).1
   have e2 : (pce (wid s) a l (pcN (wid s) a l - 1)).c = 16 * a / wid s + (pcN (wid s) a l - 1):=rfl
   omega
/-! ### Write -/
theorem RI.need (h : RI n s m) {a l : Nat} (hall : a + l ≤ iall s) : needTo n a l false m (mC m).length = ndK s a l (pcN (wid s) a l):=by
 have key : ∀ k,k ≤ s.t.length → needTo n a l false m k = ndK s a l (ahd (16 * a / wid s) (pcN (wid s) a l) k):=fun k=>by
   induction k with
   | zero=>intro _; unfold ahd; simp [needTo,ndK]
   | succ k ih =>
     intro hk
     have hk1 : k < s.t.length:=hk
     obtain ⟨q1,q2⟩:=h.piece (a:=a) (l:=l) (c:=k)
     have hw : qwants n a l false m k = (decide (0 < insTo n k a l n) && decide (kdM m k ≠ 1)):=by
       unfold qwants
       rw [h.own hk1]
       by_cases e : kdM m k = 1 <;> simp [e]
     rw [needTo,ih (by omega),hw]
     by_cases g : 0 < insTo n k a l n
     · obtain ⟨g1,g2⟩:=q1.1 g
       obtain ⟨a1,a2,a3⟩:=ahd_in g1 g2
       rw [a1,a2,decide_eq_true g,Bool.true_and,ndK]
       have e2 : (pce (wid s) a l (k - 16 * a / wid s)).c = k:=(q2 g1 g2).1
       rw [e2,h.needs hk1]
       by_cases e : kdM m k = 1
       · rw [decide_eq_false (fun q=>q e)]; rfl
       · rw [decide_eq_true e]; rfl
     · rw [ahd_out (fun q=>g (q1.2 q)),decide_eq_false g]
       rfl
 rw [h.len,key _ (Nat.le_refl _),ahd_all (h.fits hall)]
theorem clus_bel (h : RI n s m) {c : Nat} (hc : c < s.t.length) {y : List UInt8} {bel : List (List UInt8)} (hb : kdM m c = 0 → bel[c]? = some y ∧ y.length = 16 * n) : clus s c (some y) = clusM n m c bel:=by
 have hc2 : c < (mC m).length:=by rw [h.len]; exact hc
 have hk:=h.kd c hc
 have hct:=h.ct c hc
 rw [kdM_at hc2] at hk hct hb
 rw [idM_at hc2] at hct
 unfold clusM
 rw [List.getElem?_eq_getElem hc2]
 simp only
 unfold clus at hct ⊢
 rw [List.getD_eq_getElem?_getD,List.getElem?_eq_getElem hc] at hk
 rw [List.getElem?_eq_getElem hc] at hct ⊢
 simp only [Option.getD_some] at hk hct ⊢
 have hw:=h.wd
 by_cases e1 : ceK (mC m)[c] = 1
 · rw [if_pos e1]
   have:=hct e1
   rw [if_pos (hk.symm.trans e1)] at this ⊢
   exact this
 · rw [if_neg e1,if_neg (fun q=>e1 (hk.trans q))]
   by_cases e0 : ceK (mC m)[c] = 0
   · obtain ⟨hb1,hy⟩:=hb e0
     rw [if_pos e0,if_pos (hk.symm.trans e0),if_pos (hy.trans hw.symm),hb1]
     simp only
     rw [if_pos hy]
   · rw [if_neg e0,if_neg (fun q=>e0 (hk.trans q))]
     unfold zer
     rw [hw]
theorem RI.wr (h : RI n s m) {a l : Nat} {bs : List UInt8} (hbl : bs.length = 16 * l) (hall : a + l ≤ iall s) {y : Nat → List UInt8} {bel : List (List UInt8)} (hy : ∀ c,c < s.t.length → kdM m c = 0 → bel[c]? = some (y c) ∧ (y c).length = 16 * n) (hd : (mD m).length + 256 ≤ 100000)
   (hnd : ndK s a l (pcN (wid s) a l) ≤ zeros s.l) : RI n (iwrK s a l bs y (pcN (wid s) a l)) (wTo n a l bs bel false m (mC m).length):=by
 have htl:=h.im.tl
 have key : ∀ k,k ≤ s.t.length → RI n (iwrK s a l bs y (ahd (16 * a / wid s) (pcN (wid s) a l) k)) (wTo n a l bs bel false m k):=fun k=>by
   induction k with
   | zero=>intro _; unfold ahd; simp only [Nat.zero_sub,Nat.zero_min]; exact h
   | succ k ih =>
     intro hk
     have hk1 : k < s.t.length:=hk
     have hr:=ih (by omega)
     obtain ⟨q1,q2⟩:=h.piece (a:=a) (l:=l) (c:=k)
     rw [wTo]
     by_cases g : 0 < insTo n k a l n
     · obtain ⟨g1,g2⟩:=q1.1 g
       obtain ⟨a1,a2,a3⟩:=ahd_in g1 g2
       obtain ⟨p1,p2,p3,p4⟩:=q2 g1 g2
       rw [a1] at hr
       rw [a2]
       obtain ⟨hI,hs⟩:=wrI h.im hbl hall y hnd (k - 16 * a / wid s) (by omega)
       obtain ⟨hput,_⟩:=hs a3
       have hwl : wid (iwrK s a l bs y (k - 16 * a / wid s)) = wid s:=hI.like.wid
       have htl2 : (iwrK s a l bs y (k - 16 * a / wid s)).t.length = s.t.length:=hI.like.tl
       have e : stepW n a l bs bel false (wTo n a l bs bel false m k) k = putM (wTo n a l bs bel false m k) k (ldTo n k a (clusM n (wTo n a l bs bel false m k) k bel) bs n):=by
         unfold stepW
         rw [if_neg (by omega),if_neg (fun q=>absurd q.1 (by decide)),if_neg (fun q=>absurd q.1 (by decide))]
       rw [e]
       have hck : k < (iwrK s a l bs y (k - 16 * a / wid s)).t.length:=by rw [htl2]; exact hk1
       have hsame:=(hI.far k (.inr (by omega))).1
       have hcb:=clus_bel hr hck (bel:=bel) (y:=y k) fun q=>hy k hk1 (by rw [h.kd k hk1,← getD_far hsame,← hr.kd k hck]; exact q)
       have hcl:=clusM_len hr.ok (c:=k) (by rw [hr.len]; exact hck) bel
       rw [p1] at hput
       have hp1 : (pce (wid s) a l (k - 16 * a / wid s)).c = k:=p1
       have hpl : (laid (clus (iwrK s a l bs y (k - 16 * a / wid s)) k (some (y k))) (pce (wid s) a l (k - 16 * a / wid s)).a ((pce (wid s) a l (k - 16 * a / wid s)).b - (pce (wid s) a l (k - 16 * a / wid s)).a) (bsP bs (pce (wid s) a l (k - 16 * a / wid s)))).length = 16 * n:=by
         obtain ⟨w1,w2,w3,w4⟩:=pce_ok (wid_isW h.im.bits) a3
         rw [laid_len (by rw [hcb,hcl]; have:=h.wd; omega) (bsP_len w1 (by omega)),hcb,hcl]
       have hx:=h.lay hbl (X:=clus (iwrK s a l bs y (k - 16 * a / wid s)) k (some (y k))) (by rw [hcb]; exact hcl) ⟨p3,p4⟩ hpl
       rw [hcb] at hx
       have hpp:=hr.put (x:=ldTo n k a (clusM n (wTo n a l bs bel false m k) k bel) bs n) hput (by rw [hp1]; exact hck) (by rw [hp1,hcb]; exact hx) (ldTo_len n (Nat.le_of_eq hcl.symm)) (by
         have:=wTo_dl n a l bs bel false m k
         omega)
       rw [hp1] at hpp
       exact hpp
     · rw [ahd_out (fun q=>g (q1.2 q))]
       have e : stepW n a l bs bel false (wTo n a l bs bel false m k) k = wTo n a l bs bel false m k:=if_pos (by omega)
       rw [e]
       exact hr
 have:=key _ (Nat.le_refl _)
 rw [ahd_all (h.fits hall),← h.len] at this
 exact this
/-! ### Discard -/
theorem RI.ds (h : RI n s m) {a l : Nat} (hall : a + l ≤ iall s) : RI n (idsS s a l) (dcTo n a l m (mC m).length):=by
 have htl:=h.im.tl
 have n1:=h.ok.n1
 have key : ∀ k,k ≤ s.t.length → RI n (idsK s a l (ahd (16 * a / wid s) (pcN (wid s) a l) k)) (dcTo n a l m k):=fun k=>by
   induction k with
   | zero=>intro _; unfold ahd; simp only [Nat.zero_sub,Nat.zero_min]; exact h
   | succ k ih =>
     intro hk
     have hk1 : k < s.t.length:=hk
     have hr:=ih (by omega)
     obtain ⟨q1,q2⟩:=h.piece (a:=a) (l:=l) (c:=k)
     by_cases g : 0 < insTo n k a l n
     · obtain ⟨g1,g2⟩:=q1.1 g
       obtain ⟨a1,a2,a3⟩:=ahd_in g1 g2
       obtain ⟨p1,p2,_⟩:=q2 g1 g2
       rw [a1] at hr
       rw [a2,idsK,dcTo,p2,p1,h.wd]
       have hI:=dsI h.im hall (k - 16 * a / wid s) (by omega)
       by_cases e : insTo n k a l n = n
       · rw [if_pos (by rw [e]),if_pos e]
         have hck : k < (idsK s a l (k - 16 * a / wid s)).t.length:=by rw [hI.like.tl]; exact hk1
         have:=hr.set (iset_law hr.im hck (q:=s0) (.inl rfl)) hck (.inl rfl)
         rw [h.wd] at this
         exact this
       · rw [if_neg (by omega),if_neg e]
         rw [h.wd] at hr
         exact hr
     · rw [ahd_out (fun q=>g (q1.2 q)),dcTo,if_neg (by omega)]
       exact hr
 have:=key _ (Nat.le_refl _)
 rw [ahd_all (h.fits hall),← h.len] at this
 exact this
/-! ### Zero -/
theorem RI.zneed (h : RI n s m) {a l : Nat} (hall : a + l ≤ iall s) : needTo n a l true m (mC m).length = zdK s a l (pcN (wid s) a l):=by
 have key : ∀ k,k ≤ s.t.length → needTo n a l true m k = zdK s a l (ahd (16 * a / wid s) (pcN (wid s) a l) k):=fun k=>by
   induction k with
   | zero=>intro _; unfold ahd; simp [needTo,zdK]
   | succ k ih =>
     intro hk
     have hk1 : k < s.t.length:=hk
     obtain ⟨q1,q2⟩:=h.piece (a:=a) (l:=l) (c:=k)
     rw [needTo,ih (by omega)]
     by_cases g : 0 < insTo n k a l n
     · obtain ⟨g1,g2⟩:=q1.1 g
       obtain ⟨a1,a2,a3⟩:=ahd_in g1 g2
       obtain ⟨p1,p2,_⟩:=q2 g1 g2
       rw [a1,a2,zdK]
       have hw : zNeeds s (pce (wid s) a l (k - 16 * a / wid s)) = qwants n a l true m k:=by
         unfold zNeeds isWhole qwants
         rw [p1,p2,h.needs hk1,h.own hk1,← h.kd k hk1,h.wd,decide_eq_true g]
         have ew : decide (16 * insTo n k a l n = 16 * n) = decide (insTo n k a l n = n):=by
           rw [Bool.eq_iff_iff,decide_eq_true_iff,decide_eq_true_iff]; omega
         rw [ew]
         by_cases e1 : insTo n k a l n = n <;> by_cases e2 : kdM m k = 2 <;> by_cases e3 : kdM m k = 1 <;> simp [e1,e2,e3]
       rw [← hw]
       cases zNeeds s (pce (wid s) a l (k - 16 * a / wid s)) <;> rfl
     · rw [ahd_out (fun q=>g (q1.2 q))]
       have hw : qwants n a l true m k = false:=by unfold qwants; rw [decide_eq_false g]; rfl
       rw [hw]
 rw [h.len,key _ (Nat.le_refl _),ahd_all (h.fits hall)]
theorem bsP_zero {W a l k : Nat} (hW : isW W) (hk : k < pcN W a l) : bsP (List.replicate (16 * l) 0) (pce W a l k) = zerB ((pce W a l k).b - (pce W a l k).a):=by
 obtain ⟨w1,w2,w3,w4⟩:=pce_ok hW hk
 unfold bsP zerB
 rw [List.take_replicate,List.drop_replicate]
 congr 1
 omega
theorem RI.zr (h : RI n s m) {a l : Nat} (hall : a + l ≤ iall s) {y : Nat → List UInt8} {bel : List (List UInt8)} (hy : ∀ c,c < s.t.length → kdM m c = 0 → bel[c]? = some (y c) ∧ (y c).length = 16 * n) (hd : (mD m).length + 256 ≤ 100000)
   (hnd : zdK s a l (pcN (wid s) a l) ≤ zeros s.l) : RI n (izrK s a l y (pcN (wid s) a l)) (wTo n a l (List.replicate (16 * l) 0) bel true m (mC m).length):=by
 have htl:=h.im.tl
 have n1:=h.ok.n1
 have hbl : (List.replicate (16 * l) (0 : UInt8)).length = 16 * l:=List.length_replicate
 have key : ∀ k,k ≤ s.t.length → RI n (izrK s a l y (ahd (16 * a / wid s) (pcN (wid s) a l) k)) (wTo n a l (List.replicate (16 * l) 0) bel true m k):=fun k=>by
   induction k with
   | zero=>intro _; unfold ahd; simp only [Nat.zero_sub,Nat.zero_min]; exact h
   | succ k ih =>
     intro hk
     have hk1 : k < s.t.length:=hk
     have hr:=ih (by omega)
     obtain ⟨q1,q2⟩:=h.piece (a:=a) (l:=l) (c:=k)
     have hdk:=wTo_dl n a l (List.replicate (16 * l) 0) bel true m k
     rw [wTo]
     generalize wTo n a l (List.replicate (16 * l) 0) bel true m k = X at *
     by_cases g : 0 < insTo n k a l n
     · obtain ⟨g1,g2⟩:=q1.1 g
       obtain ⟨a1,a2,a3⟩:=ahd_in g1 g2
       obtain ⟨p1,p2,p3,p4⟩:=q2 g1 g2
       rw [a1] at hr
       rw [a2,izrK]
       have hI:=zrI h.im hall y hnd (k - 16 * a / wid s) (by omega)
       have hck : k < (izrK s a l y (k - 16 * a / wid s)).t.length:=by rw [hI.like.tl]; exact hk1
       have hwl : wid (izrK s a l y (k - 16 * a / wid s)) = wid s:=hI.like.wid
       have hz:=fun hw h2=>zrHz hnd hI a3 hw h2
       unfold zpS stepW
       rw [whole_like hI.like]
       have ew : isWhole s (pce (wid s) a l (k - 16 * a / wid s)) = decide (insTo n k a l n = n):=by
         unfold isWhole
         rw [p2,h.wd,Bool.eq_iff_iff,decide_eq_true_iff,decide_eq_true_iff]
         omega
       rw [ew] at hz ⊢
       rw [if_neg (show ¬ insTo n k a l n = 0 by omega)]
       have hle:=insTo_le n k a l n
       by_cases e1 : insTo n k a l n = n
       · rw [if_pos (decide_eq_true e1),if_neg (by omega),if_pos ⟨rfl,e1⟩,p1]
         exact hr.set (iset_law hr.im hck (q:=sZr) (.inr rfl)) hck (.inr rfl)
       · rw [if_neg (by rw [decide_eq_false e1]; decide),if_neg (show ¬ (true = true ∧ insTo n k a l n = n) from fun q=>e1 q.2),p1]
         have hkd:=hr.kd k hck
         by_cases e2 : kdM X k = 2
         · rw [if_pos (hkd.symm.trans e2),if_pos ⟨rfl,by omega,e2⟩]
           exact hr
         · rw [if_neg (fun q=>e2 (hkd.trans q)),if_neg (fun q=>e2 q.2.2)]
           obtain ⟨w1,w2,w3,w4⟩:=pce_ok (wid_isW h.im.bits) a3
           have hsame:=(hI.far k (.inr (by omega))).1
           have hcb:=clus_bel hr hck (bel:=bel) (y:=y k) fun q=>hy k hk1 (by rw [h.kd k hk1,← getD_far hsame,← hr.kd k hck]; exact q)
           have hcl:=clusM_len hr.ok (c:=k) (by rw [hr.len]; exact hck) bel
           have hbz:=bsP_zero (wid_isW h.im.bits) a3
           rw [← hbz]
           have hzz:=hz (decide_eq_false e1) (by rw [p1]; exact fun q=>e2 (hkd.trans q))
           have hput:=iput_law hr.im (p:=pce (wid s) a l (k - 16 * a / wid s)) (by rw [p1]; exact hck) (bs:=bsP (List.replicate (16 * l) 0) (pce (wid s) a l (k - 16 * a / wid s))) (y:=y k) w1 (by rw [hwl]; exact w2) (bsP_len w1 (by omega)) hzz
           have hpl : (laid (clus (izrK s a l y (k - 16 * a / wid s)) k (some (y k))) (pce (wid s) a l (k - 16 * a / wid s)).a ((pce (wid s) a l (k - 16 * a / wid s)).b - (pce (wid s) a l (k - 16 * a / wid s)).a) (bsP (List.replicate (16 * l) 0) (pce (wid s) a l (k - 16 * a / wid s)))).length = 16 * n:=by
             rw [laid_len (by rw [hcb,hcl]; have:=h.wd; omega) (bsP_len w1 (by omega)),hcb,hcl]
           have hx:=h.lay hbl (X:=clus (izrK s a l y (k - 16 * a / wid s)) k (some (y k))) (by rw [hcb]; exact hcl) ⟨p3,p4⟩ hpl
           rw [hcb] at hx
           have hpp:=hr.put (x:=ldTo n k a (clusM n X k bel) (List.replicate (16 * l) 0) n) hput (by rw [p1]; exact hck) (by rw [p1,hcb]; exact hx) (ldTo_len n (Nat.le_of_eq hcl.symm)) (by omega)
           rw [p1] at hpp
           exact hpp
     · rw [ahd_out (fun q=>g (q1.2 q))]
       have e : stepW n a l (List.replicate (16 * l) 0) bel true X k = X:=if_pos (by omega)
       rw [e]
       exact hr
 have:=key _ (Nat.le_refl _)
 rw [ahd_all (h.fits hall),← h.len] at this
 exact this
end
end Go.Proofs.YteoamepgonpdlaaGreat
/-!
  The program's chain and the document's: what both have: names, depths, users, what is read.
-/
namespace Go.Proofs.YteoamepgonpdlaaGreat
set_option linter.unusedVariables false
set_option linter.unusedSimpArgs false
set_option maxRecDepth 10000
open Go.RowKit Go.Proofs
/-! ### rows of rising names -/
theorem rise_sort {l : List (List UInt8)} (h : l.Nodup) : (l.mergeSort Go.leB).Pairwise (· < ·):=by
 have tr : ∀ a b c : List UInt8,Go.leB a b = true → Go.leB b c = true → Go.leB a c = true:=fun a b c h1 h2=>by simp only [Go.leB,decide_eq_true_eq] at *; exact List.le_trans h1 h2
 have to : ∀ a b : List UInt8,(Go.leB a b || Go.leB b a) = true:=fun a b=>by simp only [Go.leB,Bool.or_eq_true,decide_eq_true_eq]; exact List.le_total a b
 have h1 : (l.mergeSort Go.leB).Pairwise fun a b=>Go.leB a b = true:=List.pairwise_mergeSort tr to _
 have h2 : (l.mergeSort Go.leB).Nodup:=(List.mergeSort_perm _ _).nodup_iff.2 h
 exact List.Pairwise.imp₂ (fun a b hle hne=>by
   have hle : a ≤ b:=by simpa [Go.leB] using hle
   rcases List.le_iff_lt_or_eq.1 hle with h | h
   · exact h
   · exact absurd h hne) h1 h2
theorem rise_ext : ∀ {a b : List (List UInt8)},a.Pairwise (· < ·) → b.Pairwise (· < ·) → (∀ x,x ∈ a ↔ x ∈ b) → a = b
 | [],[],_,_,_=>rfl
 | [],y :: b,_,_,h=>absurd ((h y).2 (List.mem_cons_self ..)) (List.not_mem_nil)
 | x :: a,[],_,_,h=>absurd ((h x).1 (List.mem_cons_self ..)) (List.not_mem_nil)
 | x :: a,y :: b,ha,hb,h=>by
   obtain ⟨a1,a2⟩:=List.pairwise_cons.1 ha
   obtain ⟨b1,b2⟩:=List.pairwise_cons.1 hb
   have e : x = y:=by
     rcases List.mem_cons.1 ((h x).1 (List.mem_cons_self ..)) with e | e
     · exact e
     · rcases List.mem_cons.1 ((h y).2 (List.mem_cons_self ..)) with e2 | e2
       · exact e2.symm
       · exact absurd (List.lt_trans (b1 x e) (a1 y e2)) (List.lt_irrefl _)
   subst e
   rw [rise_ext a2 b2 fun z=>?_]
   constructor
   · intro hz
     rcases List.mem_cons.1 ((h z).1 (List.mem_cons_of_mem _ hz)) with e | e
     · subst e; exact absurd (a1 z hz) (List.lt_irrefl _)
     · exact e
   · intro hz
     rcases List.mem_cons.1 ((h z).2 (List.mem_cons_of_mem _ hz)) with e | e
     · subst e; exact absurd (b1 z hz) (List.lt_irrefl _)
     · exact e
theorem nmsS_rise {L : List Dsk} (h : (L.map (·.nm)).Nodup) : (nmsS L).Pairwise (· < ·):=by
 unfold nmsS keysS
 rw [mkeys_chE]
 exact rise_sort h
theorem nmsS_iff {L : List Dsk} {n : List UInt8} : n ∈ nmsS L ↔ n ∈ L.map (·.nm):=by
 unfold nmsS keysS
 rw [List.mem_mergeSort,mkeys_chE]
theorem nmsS_dk {L : List Dsk} {n : List UInt8} : n ∈ nmsS L ↔ ∃ d,dk L n = some d:=by
 constructor
 · exact nmsS_mem
 · rintro ⟨d,hd⟩
   rw [nmsS_iff]
   obtain ⟨h1,h2⟩:=dk_get hd
   exact List.mem_map.2 ⟨d,h1,h2⟩
/-! ### who stands on whom -/
/-- Both have the same names,and the same below them. -/
def BK (L : List Dsk) (l : List Rdk) : Prop:=∀ x,(gtR l x).map (fun e=>dB e) = (dk L x).map (·.back)
theorem BK.get {L : List Dsk} {l : List Rdk} (h : BK L l) (x : List UInt8) : (dk L x = none ∧ gtR l x = none) ∨ ∃ d e,dk L x = some d ∧ gtR l x = some e ∧ dB e = d.back:=by
 have:=h x
 cases e1 : dk L x with
 | none =>
   rw [e1] at this
   cases e2 : gtR l x with
   | none=>exact .inl ⟨rfl,rfl⟩
   | some e=>rw [e2] at this; cases this
 | some d =>
   rw [e1] at this
   cases e2 : gtR l x with
   | none=>rw [e2] at this; cases this
   | some e=>rw [e2] at this; injection this with this; exact .inr ⟨d,e,rfl,rfl,this⟩
theorem BK.dp {L : List Dsk} {l : List Rdk} (h : BK L l) {x : List UInt8} {k : Nat} (hD : Dn L x k) : ∀ f,k ≤ f → qdpF l f x = k:=by
 induction hD with
 | @gone nm h0 =>
   intro f _
   cases f with
   | zero=>rfl
   | succ f =>
     rcases h.get nm with ⟨_,e⟩ | ⟨d,e,e1,_⟩
     · have : onR l nm = none:=by unfold onR; rw [e]
       rw [qdpF,this]
     · rw [h0] at e1; cases e1
 | @base nm d h0 hb =>
   intro f _
   cases f with
   | zero=>rfl
   | succ f =>
     rcases h.get nm with ⟨e1,_⟩ | ⟨d2,e,e1,e2,e3⟩
     · rw [h0] at e1; cases e1
     · rw [h0] at e1
       injection e1 with e1
       subst e1
       have : onR l nm = none:=by unfold onR; rw [e2]; exact if_pos (e3.trans hb)
       rw [qdpF,this]
 | @step nm d k h0 hb hD ih =>
   intro f hf
   cases f with
   | zero=>omega
   | succ f =>
     rcases h.get nm with ⟨e1,_⟩ | ⟨d2,e,e1,e2,e3⟩
     · rw [h0] at e1; cases e1
     · rw [h0] at e1
       injection e1 with e1
       subst e1
       have : onR l nm = some d.back:=by
         unfold onR; rw [e2]; simp only
         rw [if_neg (fun q=>hb (e3.symm.trans q)),e3]
       rw [qdpF,this]
       simp only
       rw [ih f (by omega)]
theorem BK.en {L : List Dsk} {l : List Rdk} (h : BK L l) (hne : ∀ d,d ∈ L → d.nm ≠ []) {x : List UInt8} {k : Nat} (hD : Dn L x k) : ∀ f,k + 1 ≤ f → enR l f x:=by
 induction hD with
 | @gone nm h0 =>
   intro f hf
   rcases h.get nm with ⟨_,e⟩ | ⟨d,e,e1,_⟩
   · cases f with
     | zero=>exact e
     | succ f=>unfold enR; rw [e]; trivial
   · rw [h0] at e1; cases e1
 | @base nm d h0 hb =>
   intro f hf
   cases f with
   | zero=>omega
   | succ f =>
     rcases h.get nm with ⟨e1,_⟩ | ⟨d2,e,e1,e2,e3⟩
     · rw [h0] at e1; cases e1
     · rw [h0] at e1
       injection e1 with e1
       subst e1
       unfold enR
       rw [e2]
       simp only
       rw [e3,hb]
       have e0 : gtR l [] = none:=by
         rcases h.get [] with ⟨_,e⟩ | ⟨d3,e,e1,_⟩
         · exact e
         · obtain ⟨g1,g2⟩:=dk_get e1
           exact absurd g2 (hne _ g1)
       cases f with
       | zero=>exact e0
       | succ f=>unfold enR; rw [e0]; trivial
 | @step nm d k h0 hb hD ih =>
   intro f hf
   cases f with
   | zero=>omega
   | succ f =>
     rcases h.get nm with ⟨e1,_⟩ | ⟨d2,e,e1,e2,e3⟩
     · rw [h0] at e1; cases e1
     · rw [h0] at e1
       injection e1 with e1
       subst e1
       unfold enR
       rw [e2]
       simp only
       rw [e3]
       exact ih f (by omega)
/-! ### chains -/
structure RC (n bits room : Nat) (L : List Dsk) (l : List Rdk) : Prop where
 n2 : n = 2 ^ bits
 nm : l.map (fun e=>dN e) = nmsS L
 bk : BK L l
 ri : ∀ x d e,dk L x = some d → gtR l x = some e → RI n d.im (dIm e)
section
variable {n bits room : Nat} {L : List Dsk} {l : List Rdk} {s : ImS} {m : Rim}
theorem RC.get (h : RC n bits room L l) {x : List UInt8} {d : Dsk} (hd : dk L x = some d) : ∃ e,gtR l x = some e ∧ dB e = d.back ∧ RI n d.im (dIm e):=by
 rcases h.bk.get x with ⟨e1,_⟩ | ⟨d2,e,e1,e2,e3⟩
 · rw [hd] at e1; cases e1
 · rw [hd] at e1
   injection e1 with e1
   subst e1
   exact ⟨e,e2,e3,h.ri x d e hd e2⟩
theorem RC.no (h : RC n bits room L l) {x : List UInt8} (hd : dk L x = none) : gtR l x = none:=by
 rcases h.bk.get x with ⟨_,e⟩ | ⟨d2,e,e1,_⟩
 · exact e
 · rw [hd] at e1; cases e1
theorem RC.len (h : RC n bits room L l) : l.length = L.length:=by
 have:=congrArg List.length h.nm
 rw [List.length_map,nmsS_len] at this
 exact this
theorem RC.mem (h : RC n bits room L l) (hC : CS bits room L) {e : Rdk} (he : e ∈ l) : ∃ d,dk L (dN e) = some d ∧ gtR l (dN e) = some e:=by
 have h1 : dN e ∈ nmsS L:=by rw [← h.nm]; exact List.mem_map.2 ⟨e,he,rfl⟩
 obtain ⟨d,hd⟩:=nmsS_mem h1
 refine ⟨d,hd,?_⟩
 have hnd : (l.map (fun e=>dN e)).Nodup:=by
   rw [h.nm]
   exact (nmsS_rise hC.nms).imp fun hlt e=>by subst e; exact List.lt_irrefl _ hlt
 obtain ⟨e2,g1,_⟩:=h.get hd
 obtain ⟨i,hi,_,i2,i3⟩:=fdI_some g1
 obtain ⟨j,hj,rfl⟩:=List.getElem_of_mem he
 have hij : i = j:=by
   have e1 : (l.map (fun e=>dN e))[i]'(by rw [List.length_map]; exact hi) = (l.map (fun e=>dN e))[j]'(by rw [List.length_map]; exact hj):=by
     rw [List.getElem_map,List.getElem_map,i2]
     exact i3
   exact (List.getElem_inj hnd).1 e1
 subst hij
 rw [g1,← i2]
theorem RC.cok (h : RC n bits room L l) (hC : CS bits room L) : COK n l where
 len:=by rw [h.len]; exact hC.len
 ok:=fun e he=>by
   obtain ⟨d,hd,hg⟩:=h.mem hC he
   exact (h.ri _ d e hd hg).ok
 en:=fun x=>by
   obtain ⟨h1,h2⟩:=hC.dep x
   exact h.bk.en hC.ne h1 19 (by omega)
theorem RC.dp (h : RC n bits room L l) (hC : CS bits room L) (x : List UInt8) : dqR l x = dpt L x:=by
 obtain ⟨h1,h2⟩:=hC.dep x
 exact h.bk.dp h1 99 (by omega)
theorem gt_dN {l : List Rdk} {x : List UInt8} {e : Rdk} (h : gtR l x = some e) : dN e = x:=by
 obtain ⟨_,_,_,_,g⟩:=fdI_some h
 exact g
theorem filter_names {f : List UInt8 → Bool} {g : Rdk → Bool} : ∀ {l : List Rdk},(∀ e,e ∈ l → g e = f (dN e)) → (l.filter g).map (fun e=>dN e) = (l.map (fun e=>dN e)).filter f
 | [],_=>rfl
 | e :: l,h=>by
   have ih:=filter_names (f:=f) (g:=g) (l:=l) fun e he=>h e (List.mem_cons_of_mem _ he)
   have h0:=h e (List.mem_cons_self ..)
   rw [List.map_cons,List.filter_cons,List.filter_cons,← h0]
   cases g e with
   | true=>simp only [if_true]; rw [List.map_cons,ih]
   | false=>exact ih
theorem RC.us (h : RC n bits room L l) (hC : CS bits room L) (x : List UInt8) : usR l x = usrS L x:=by
 unfold usR usrS
 rw [← h.nm]
 refine filter_names (l:=l) fun e he=>?_
 obtain ⟨d,hd,hg⟩:=h.mem hC he
 obtain ⟨e2,g1,g2,_⟩:=h.get hd
 rw [hg] at g1
 injection g1 with g1
 subst g1
 unfold isUsr
 rw [hd,g2]
 rfl
/-! ### what is read -/
theorem RC.see (h : RC n bits room L l) (hC : CS bits room L) (c : Nat) {x : List UInt8} {k : Nat} (hD : Dn L x k) (hx : ∃ d,dk L x = some d) : ∀ f,k < f → ∀ i,
   seenL bits L c (x :: bl L k x) i = match awF l c f x with
     | some (j,y)=>(((dk L y).map fun d=>clus d.im c none).getD [],i + j)
     | none=>(List.replicate (16 * 2 ^ bits) 0,0):=by
 have one : ∀ {nm : List UInt8} {d : Dsk} {e : Rdk},dk L nm = some d → RI n d.im (dIm e) → ((c < d.im.t.length ∧ (d.im.t.getD c s0).1 ≠ 0) ↔ (c < (mC (dIm e)).length ∧ kdM (dIm e) c ≠ 0)):=fun {nm d e} hd hr=>by
   rw [hr.len]
   constructor
   · rintro ⟨g1,g2⟩; exact ⟨g1,by rw [hr.kd c g1]; exact g2⟩
   · rintro ⟨g1,g2⟩; exact ⟨g1,by rw [← hr.kd c g1]; exact g2⟩
 induction hD with
 | @gone nm h0=>obtain ⟨d,hd⟩:=hx; rw [h0] at hd; cases hd
 | @base nm d h0 hb =>
   intro f hf i
   obtain ⟨e,g1,g2,g3⟩:=h.get h0
   cases f with
   | zero=>omega
   | succ f =>
     show seenL bits L c [nm] i = _
     rw [awF,g1]
     simp only
     by_cases q : c < d.im.t.length ∧ (d.im.t.getD c s0).1 ≠ 0
     · rw [if_pos ((one h0 g3).1 q),seenL_head h0 q]
       simp only
       rw [h0]
       rfl
     · rw [if_neg (fun w=>q ((one h0 g3).2 w)),seenL_tail h0 q]
       have e0 : gtR l (dB e) = none:=by
         rw [g2,hb]
         refine h.no ?_
         cases e5 : dk L [] with
         | none=>rfl
         | some d3=>obtain ⟨w1,w2⟩:=dk_get e5; exact absurd w2 (hC.ne _ w1)
       have e6 : awF l c f (dB e) = none:=by
         cases f with
         | zero=>rfl
         | succ f=>rw [awF,e0]
       rw [e6]
       rfl
 | @step nm d k h0 hb hD ih =>
   intro f hf i
   obtain ⟨e,g1,g2,g3⟩:=h.get h0
   cases f with
   | zero=>omega
   | succ f =>
     have eb : bl L (k + 1) nm = d.back :: bl L k d.back:=by rw [bl,h0]
     rw [eb,awF,g1]
     simp only
     by_cases q : c < d.im.t.length ∧ (d.im.t.getD c s0).1 ≠ 0
     · rw [if_pos ((one h0 g3).1 q),seenL_head h0 q]
       simp only
       rw [h0]
       rfl
     · rw [if_neg (fun w=>q ((one h0 g3).2 w)),seenL_tail h0 q,ih (hC.kn d (dk_get h0).1 hb) f (by omega) (i + 1),g2]
       cases awF l c f d.back with
       | none=>rfl
       | some p =>
         show (_,i + 1 + p.1) = (_,i + (p.1 + 1))
         rw [show i + 1 + p.1 = i + (p.1 + 1) by omega]
theorem RI.rd (h : RI n s m) {c : Nat} (hc : c < s.t.length) (hk : kdM m c ≠ 0) : rdTo n m (c * n) n = clus s c none:=by
 have hc2 : c < (mC m).length:=by rw [h.len]; exact hc
 have n1:=h.ok.n1
 have e0 : clus s c none = clusM n m c []:=by
   have h1:=h.ct c hc
   have hkd:=h.kd c hc
   unfold clusM
   rw [List.getElem?_eq_getElem hc2]
   simp only
   rw [← kdM_at hc2,← idM_at hc2,if_neg hk]
   by_cases e : kdM m c = 1
   · rw [if_pos e]; exact h1 e
   · rw [if_neg e]
     unfold clus
     rw [List.getD_eq_getElem?_getD,List.getElem?_eq_getElem hc] at hkd
     rw [List.getElem?_eq_getElem hc]
     simp only [Option.getD_some] at hkd ⊢
     rw [if_neg (fun q=>e (hkd.trans q)),if_neg (fun q=>hk (hkd.trans q))]
     unfold zer
     rw [h.wd]
 have hl:=clusM_len h.ok hc2 []
 rw [e0]
 have e:=sec_all (Z:=clusM n m c []) (f:=fun k=>rdS n m (c * n + k)) (g:=fun k=>rdTo n m (c * n) k) rfl (fun _=>rfl) n (Nat.le_of_eq hl.symm) fun k hk=>by
   show _ = rdS n m (c * n + k)
   unfold rdS sec
   have d1 : (c * n + k) / n = c:=by rw [Nat.mul_comm,Nat.mul_add_div n1,Nat.div_eq_of_lt hk,Nat.add_zero]
   have d2 : (c * n + k) % n = k:=by rw [Nat.mul_comm,Nat.mul_add_mod,Nat.mod_eq_of_lt hk]
   rw [d1,d2,Nat.mul_comm 16 k]
 rw [← hl,List.take_length] at e
 exact e.symm
theorem RC.cl (h : RC n bits room L l) (hC : CS bits room L) {x : List UInt8} (hx : ∃ d,dk L x = some d) (c : Nat) : clR n l x c = cseen bits L x (dpt L x) c:=by
 obtain ⟨hD,h8⟩:=hC.dep x
 unfold cseen clR
 rw [h.see hC c hD hx 20 (by omega) 0]
 cases ea : awF l c 20 x with
 | none=>simp only; rw [h.n2]
 | some p =>
   obtain ⟨j,y⟩:=p
   obtain ⟨_,e,g1,g2,g3⟩:=awF_le l c 20 x j y ea
   simp only
   rcases h.bk.get y with ⟨_,e2⟩ | ⟨d,e2,w1,w2,_⟩
   · rw [g1] at e2; cases e2
   · rw [g1] at w2
     injection w2 with w2
     subst w2
     have hr:=h.ri y d e w1 g1
     rw [g1,w1]
     simp only [Option.map_some,Option.getD_some]
     rw [(readM_len hr.ok g2).2.1]
     exact hr.rd (by rw [← hr.len]; exact g2) g3
theorem RC.aw (h : RC n bits room L l) (hC : CS bits room L) {x : List UInt8} (hx : ∃ d,dk L x = some d) (c : Nat) : awN l c x = (awy bits L x c : Nat):=by
 obtain ⟨hD,h8⟩:=hC.dep x
 unfold awy awN
 rw [h.see hC c hD hx 20 (by omega) 0]
 cases awF l c 20 x with
 | none=>rfl
 | some p=>show ((p.1 : Nat) : Int) = ((0 + p.1 : Nat) : Int); rw [Nat.zero_add]
theorem RC.kd (h : RC n bits room L l) (hC : CS bits room L) {x : List UInt8} (hx : ∃ d,dk L x = some d) (k : Nat) : kdTo l x k = awyL bits L x k:=by
 unfold kdTo awyL
 exact List.map_congr_left fun c _=>h.aw hC hx c
/-- All that is read,by clusters and by sectors. -/
theorem RC.al (h : RC n bits room L l) (hC : CS bits room L) {x : List UInt8} (hx : ∃ d,dk L x = some d) : ∀ k,crdK bits L x (dpt L x) 0 (n * k) = alTo n l x k
 | 0=>rfl
 | k + 1=>by
   have n1 : 1 ≤ n:=by rw [h.n2]; exact Nat.one_le_two_pow
   have hl:=clR_len (h.cok hC) x k
   have e:=sec_all (Z:=clR n l x k) (f:=fun j=>crdP bits L x (dpt L x) (0 + (n * k + j))) (g:=fun j=>(crdK bits L x (dpt L x) 0 (n * k + j)).drop (crdK bits L x (dpt L x) 0 (n * k)).length) (by simp) (fun j=>by
     show (crdK bits L x (dpt L x) 0 (n * k + (j + 1))).drop _ = _
     rw [show n * k + (j + 1) = (n * k + j) + 1 by omega,crdK,List.drop_append_of_le_length]
     induction j with
     | zero=>exact Nat.le_refl _
     | succ j ih=>rw [show n * k + (j + 1) = (n * k + j) + 1 by omega,crdK,List.length_append]; omega) n (Nat.le_of_eq hl.symm) fun j hj=>by
     show _ = crdP bits L x (dpt L x) (0 + (n * k + j))
     rw [crdP_sec,Nat.zero_add,← h.n2,Nat.mul_add_div n1,Nat.div_eq_of_lt hj,Nat.add_zero,Nat.mul_add_mod,Nat.mod_eq_of_lt hj,h.cl hC hx k]
   rw [← hl,List.take_length] at e
   have e2 : crdK bits L x (dpt L x) 0 (n * (k + 1)) = crdK bits L x (dpt L x) 0 (n * k) ++ clR n l x k:=by
     rw [e,Nat.mul_succ]
     have key : ∀ j,(crdK bits L x (dpt L x) 0 (n * k + j)).take (crdK bits L x (dpt L x) 0 (n * k)).length = crdK bits L x (dpt L x) 0 (n * k):=fun j=>by
       induction j with
       | zero=>exact List.take_length
       | succ j ih =>
         have hle : (crdK bits L x (dpt L x) 0 (n * k)).length ≤ (crdK bits L x (dpt L x) 0 (n * k + j)).length:=by
           have:=congrArg List.length ih
           rw [List.length_take] at this
           omega
         rw [show n * k + (j + 1) = (n * k + j) + 1 by omega,crdK,List.take_append_of_le_length hle,ih]
     have:=List.take_append_drop (crdK bits L x (dpt L x) 0 (n * k)).length (crdK bits L x (dpt L x) 0 (n * k + n))
     rw [key n] at this
     exact this.symm
   rw [e2,h.al hC hx k,alTo]
end
end Go.Proofs.YteoamepgonpdlaaGreat
/-!
  The program's chain and the document's: one call.
-/
namespace Go.Proofs.YteoamepgonpdlaaGreat
set_option linter.unusedVariables false
set_option linter.unusedSimpArgs false
set_option maxRecDepth 10000
open Go.RowKit Go.Proofs
/-! ### rows of disks -/
theorem gt_mem {l : List Rdk} {y : List UInt8} : y ∈ l.map (fun e=>dN e) ↔ ∃ e,gtR l y = some e:=by
 induction l with
 | nil=>constructor
          · intro h; cases h
          · rintro ⟨e,h⟩; cases h
 | cons p l ih =>
   rw [List.map_cons,List.mem_cons,gtR]
   by_cases e : dN p = y
   · rw [if_pos e]
     exact ⟨fun _=>⟨p,rfl⟩,fun _=>.inl e.symm⟩
   · rw [if_neg e,← ih]
     constructor
     · rintro (h | h)
       · exact absurd h.symm e
       · exact h
     · exact .inr
theorem gt_app (a b : List Rdk) (y : List UInt8) : gtR (a ++ b) y = (gtR a y).or (gtR b y):=by
 induction a with
 | nil=>rfl
 | cons p a ih =>
   rw [List.cons_append,gtR,gtR,ih]
   by_cases e : dN p = y
   · rw [if_pos e,if_pos e]; rfl
   · rw [if_neg e,if_neg e]
section
variable {n bits room : Nat} {L L' : List Dsk} {l l' : List Rdk}
theorem RC.of (h2 : n = 2 ^ bits) (hC : CS bits room L') (hr : (l'.map (fun e=>dN e)).Pairwise (· < ·))
   (hy : ∀ y,(dk L' y = none ∧ gtR l' y = none) ∨ ∃ d e,dk L' y = some d ∧ gtR l' y = some e ∧ dB e = d.back ∧ RI n d.im (dIm e)) : RC n bits room L' l' where
 n2:=h2
 nm:=rise_ext hr (nmsS_rise hC.nms) fun y=>by
   rw [gt_mem,nmsS_dk]
   rcases hy y with ⟨e1,e2⟩ | ⟨d,e,e1,e2,_⟩
   · rw [e1,e2]
     exact ⟨fun ⟨_,h⟩=>(by cases h),fun ⟨_,h⟩=>(by cases h)⟩
   · rw [e1,e2]
     exact ⟨fun _=>⟨d,rfl⟩,fun _=>⟨e,rfl⟩⟩
 bk:=fun y=>by
   rcases hy y with ⟨e1,e2⟩ | ⟨d,e,e1,e2,e3,_⟩
   · rw [e1,e2]; rfl
   · rw [e1,e2]; exact congrArg some e3
 ri:=fun y d e hd he=>by
   rcases hy y with ⟨e1,e2⟩ | ⟨d2,e2,e3,e4,_,e5⟩
   · rw [hd] at e1; cases e1
   · rw [hd] at e3
     rw [he] at e4
     injection e3 with e3
     injection e4 with e4
     subst e3 e4
     exact e5
theorem RC.rise (h : RC n bits room L l) (hC : CS bits room L) : (l.map (fun e=>dN e)).Pairwise (· < ·):=by
 rw [h.nm]; exact nmsS_rise hC.nms
theorem RC.both (h : RC n bits room L l) (y : List UInt8) : (dk L y = none ∧ gtR l y = none) ∨ ∃ d e,dk L y = some d ∧ gtR l y = some e ∧ dB e = d.back ∧ RI n d.im (dIm e):=by
 rcases h.bk.get y with e | ⟨d,e,e1,e2,e3⟩
 · exact .inl e
 · exact .inr ⟨d,e,e1,e2,e3,h.ri y d e e1 e2⟩
theorem RC.ix (h : RC n bits room L l) {x : List UInt8} : (0 ≤ fdI l x ↔ (dk L x).isSome = true) ∧ (fdI l x < 0 ↔ dk L x = none):=by
 rcases h.both x with ⟨e1,e2⟩ | ⟨d,e,e1,e2,_⟩
 · rw [fdI_none e2,e1]
   exact ⟨⟨fun h=>absurd h (by decide),fun h=>by cases h⟩,fun _=>rfl,fun _=>by decide⟩
 · obtain ⟨i,_,e3,_⟩:=fdI_some e2
   rw [e3,e1]
   exact ⟨⟨fun _=>rfl,fun _=>by omega⟩,fun h=>by omega,fun h=>by cases h⟩
/-! ### one disk is another one -/
theorem st_names {x : List UInt8} {e e' : Rdk} (he : gtR l x = some e) (hn : dN e' = x) : (stR l x e').map (fun e=>dN e) = l.map (fun e=>dN e):=by
 obtain ⟨i,hi,e1,e2,e3⟩:=fdI_some he
 unfold stR
 rw [e1,Int.toNat_natCast,List.map_set]
 apply List.ext_getElem?
 intro j
 by_cases q : i = j
 · subst q
   rw [List.getElem?_set_self (by rw [List.length_map]; exact hi),List.getElem?_map,List.getElem?_eq_getElem hi,Option.map_some,e2,hn,e3]
 · rw [List.getElem?_set_ne q]
theorem gt_set : ∀ {l : List Rdk} {i : Nat} (hi : i < l.length) {e' : Rdk} (y : List UInt8),dN e' = dN l[i] → (l.map (fun e=>dN e)).Nodup → gtR (l.set i e') y = if y = dN l[i] then some e' else gtR l y
 | [],i,hi,_,_,_,_=>absurd hi (Nat.not_lt_zero _)
 | p :: l,0,_,e',y,hn,_=>by
   show gtR (e' :: l) y = if y = dN p then some e' else gtR (p :: l) y
   have hn : dN e' = dN p:=hn
   rw [gtR,gtR,hn]
   by_cases q : dN p = y
   · rw [if_pos q,if_pos q.symm]
   · rw [if_neg q,if_neg (Ne.symm q),if_neg q]
 | p :: l,i + 1,hi,e',y,hn,hd=>by
   have hi : i < l.length:=Nat.lt_of_succ_lt_succ hi
   obtain ⟨d1,d2⟩:=List.nodup_cons.1 hd
   have ih:=gt_set hi (e':=e') y hn d2
   show gtR (p :: l.set i e') y = if y = dN l[i] then some e' else gtR (p :: l) y
   rw [gtR,gtR,ih]
   by_cases q : dN p = y
   · rw [if_pos q,if_pos q]
     by_cases q2 : y = dN l[i]
     · exfalso
       exact d1 (List.mem_map.2 ⟨l[i],List.getElem_mem hi,(q.trans q2).symm⟩)
     · rw [if_neg q2]
   · rw [if_neg q,if_neg q]
theorem RC.nodup (h : RC n bits room L l) (hC : CS bits room L) : (l.map (fun e=>dN e)).Nodup:=(h.rise hC).imp fun hlt e=>by subst e; exact List.lt_irrefl _ hlt
theorem RC.gtst (h : RC n bits room L l) (hC : CS bits room L) {x : List UInt8} {e e' : Rdk} (he : gtR l x = some e) (hn : dN e' = x) (y : List UInt8) : gtR (stR l x e') y = if y = x then some e' else gtR l y:=by
 obtain ⟨i,hi,e1,e2,e3⟩:=fdI_some he
 unfold stR
 rw [e1,Int.toNat_natCast,gt_set hi y (by rw [e2,e3,hn]) (h.nodup hC),e2,e3]
theorem RC.st (h : RC n bits room L l) (hC : CS bits room L) (hC' : CS bits room L') {x : List UInt8} {d d' : Dsk} {e e' : Rdk} (hd : dk L x = some d) (he : gtR l x = some e) (hn : dN e' = x) (hk : ∀ y,dk L' y = if y = x then some d' else dk L y) (hb : dB e' = d'.back) (hi : RI n d'.im (dIm e')) : RC n bits room L' (stR l x e'):=by
 refine RC.of h.n2 hC' (by rw [st_names he hn]; exact h.rise hC) fun y=>?_
 rw [h.gtst hC he hn,hk]
 by_cases q : y = x
 · rw [if_pos q,if_pos q]
   exact .inr ⟨d',e',rfl,rfl,hb,hi⟩
 · rw [if_neg q,if_neg q]
   exact h.both y
theorem st_mem {x : List UInt8} {e' e2 : Rdk} (h : e2 ∈ stR l x e') : e2 ∈ l ∨ e2 = e':=List.mem_or_eq_of_mem_set h
/-! ### add -/
theorem ptR_eq (l : List Rdk) (d : Rdk) : ∃ j,j ≤ l.length ∧ ptR l d = l.take j ++ [d] ++ l.drop j ∧ (∀ (i : Nat) (hi : i < l.length),i < j → ¬ dN d < dN l[i]) ∧ (∀ (hj : j < l.length),dN d < dN l[j]):=by
 have key : ∀ k,k ≤ l.length → ((ptS l d k).2 = false ∧ (ptS l d k).1 = l.take k ∧ ∀ (i : Nat) (hi : i < l.length),i < k → ¬ dN d < dN l[i]) ∨
     ((ptS l d k).2 = true ∧ ∃ (j : Nat) (hj : j < l.length),j < k ∧ (ptS l d k).1 = l.take j ++ [d] ++ (l.take k).drop j ∧ (∀ (i : Nat) (hi : i < l.length),i < j → ¬ dN d < dN l[i]) ∧ dN d < dN l[j]):=fun k=>by
   induction k with
   | zero=>intro _; exact .inl ⟨rfl,rfl,fun i _ h=>absurd h (Nat.not_lt_zero _)⟩
   | succ k ih =>
     intro hk
     have hk1 : k < l.length:=hk
     have e : ptS l d (k + 1) = if (ptS l d k).2 = false ∧ dN d < dN l[k] then ((ptS l d k).1 ++ [d] ++ [l[k]],true) else ((ptS l d k).1 ++ [l[k]],(ptS l d k).2):=by
       rw [ptS,List.getElem?_eq_getElem hk1]
     rcases ih (by omega) with ⟨i1,i2,i3⟩ | ⟨i1,j,hj,i2,i3,i4,i5⟩
     · by_cases q : dN d < dN l[k]
       · rw [if_pos ⟨i1,q⟩] at e
         right
         rw [e]
         refine ⟨rfl,k,hk1,Nat.lt_succ_self _,?_,i3,q⟩
         show (ptS l d k).1 ++ [d] ++ [l[k]] = _
         rw [i2,List.take_succ_eq_append_getElem hk1,List.drop_append_of_le_length (by rw [List.length_take]; omega),List.drop_of_length_le (by rw [List.length_take]; omega)]
         rfl
       · rw [if_neg (fun w=>q w.2)] at e
         left
         rw [e]
         refine ⟨i1,?_,fun i hi hik=>?_⟩
         · show (ptS l d k).1 ++ [l[k]] = _
           rw [i2,List.take_succ_eq_append_getElem hk1]
         · rcases Nat.lt_or_ge i k with h | h
           · exact i3 i hi h
           · have : i = k:=by omega
             subst this
             exact q
     · rw [if_neg (fun w=>absurd (i1.symm.trans w.1) (by decide))] at e
       right
       rw [e]
       refine ⟨i1,j,hj,by omega,?_,i4,i5⟩
       show (ptS l d k).1 ++ [l[k]] = _
       rw [i3,List.take_succ_eq_append_getElem hk1,List.drop_append_of_le_length (by rw [List.length_take]; omega),List.append_assoc]
 unfold ptR
 rcases key _ (Nat.le_refl _) with ⟨i1,i2,i3⟩ | ⟨i1,j,hj,_,i3,i4,i5⟩
 · rw [if_neg (by rw [i1]; decide),i2]
   exact ⟨l.length,Nat.le_refl _,by rw [List.drop_length,List.append_nil],i3,fun h=>absurd h (Nat.lt_irrefl _)⟩
 · rw [if_pos i1,i3]
   refine ⟨j,Nat.le_of_lt hj,by rw [List.take_length],i4,fun _=>i5⟩
theorem lt_of_not {a b : List UInt8} (h : ¬ a < b) (hne : b ≠ a) : b < a:=by
 rcases List.le_iff_lt_or_eq.1 (List.not_lt.1 h) with h | h
 · exact h
 · exact absurd h hne
theorem ptR_rise {l : List Rdk} {d : Rdk} (hr : (l.map (fun e=>dN e)).Pairwise (· < ·)) (hn : gtR l (dN d) = none) : ((ptR l d).map (fun e=>dN e)).Pairwise (· < ·):=by
 obtain ⟨j,hj,e,h1,h2⟩:=ptR_eq l d
 have hne : ∀ e,e ∈ l → dN e ≠ dN d:=fun e he q=>by
   obtain ⟨w,hw⟩:=gt_mem.1 (List.mem_map.2 ⟨e,he,q⟩)
   rw [hn] at hw
   cases hw
 rw [e,List.map_append,List.map_append]
 have hs : l.take j ++ l.drop j = l:=List.take_append_drop ..
 have hr2:=hr
 rw [← hs,List.map_append,List.pairwise_append] at hr2
 obtain ⟨r1,r2,r3⟩:=hr2
 have before : ∀ a,a ∈ (l.take j).map (fun e=>dN e) → a < dN d:=fun a ha=>by
   obtain ⟨w,hw,rfl⟩:=List.mem_map.1 ha
   obtain ⟨i,hi,rfl⟩:=List.getElem_of_mem hw
   rw [List.length_take] at hi
   have hi2 : i < l.length:=by omega
   have ew : (l.take j)[i]'(by rw [List.length_take]; omega) = l[i]:=List.getElem_take
   rw [ew]
   exact lt_of_not (h1 i hi2 (by omega)) (hne _ (List.getElem_mem hi2))
 have after : ∀ b,b ∈ (l.drop j).map (fun e=>dN e) → dN d < b:=fun b hb=>by
   obtain ⟨w,hw,rfl⟩:=List.mem_map.1 hb
   have hjl : j < l.length:=by
     rcases Nat.lt_or_ge j l.length with h | h
     · exact h
     · rw [List.drop_of_length_le h] at hw; cases hw
   rw [List.drop_eq_getElem_cons hjl] at hw r2
   rcases List.mem_cons.1 hw with q | q
   · rw [q]; exact h2 hjl
   · rw [List.map_cons] at r2
     exact List.lt_trans (h2 hjl) ((List.pairwise_cons.1 r2).1 _ (List.mem_map.2 ⟨w,q,rfl⟩))
 rw [List.pairwise_append,List.pairwise_append]
 refine ⟨⟨r1,List.pairwise_singleton _ _,fun a ha b hb=>?_⟩,r2,fun a ha b hb=>?_⟩
 · rw [List.map_cons,List.map_nil,List.mem_singleton] at hb
   rw [hb]; exact before a ha
 · rcases List.mem_append.1 ha with ha | ha
   · exact r3 a ha b hb
   · rw [List.map_cons,List.map_nil,List.mem_singleton] at ha
     rw [ha]; exact after b hb
theorem gt_pt {l : List Rdk} {d : Rdk} (hn : gtR l (dN d) = none) (y : List UInt8) : gtR (ptR l d) y = if y = dN d then some d else gtR l y:=by
 obtain ⟨j,_,e,_,_⟩:=ptR_eq l d
 have hs : l.take j ++ l.drop j = l:=List.take_append_drop ..
 have hl : ∀ z,gtR l z = (gtR (l.take j) z).or (gtR (l.drop j) z):=fun z=>by rw [← gt_app,hs]
 rw [e,gt_app,gt_app,hl y]
 show ((gtR (l.take j) y).or (if dN d = y then some d else none)).or (gtR (l.drop j) y) = _
 by_cases q : y = dN d
 · subst q
   rw [hl] at hn
   rw [if_pos rfl,if_pos rfl]
   cases e1 : gtR (l.take j) (dN d) with
   | none=>rfl
   | some w=>rw [e1] at hn; cases hn
 · rw [if_neg q,if_neg (Ne.symm q)]
   cases gtR (l.take j) y <;> rfl
theorem RI.new {bits size room : Int} (h : newMay bits size room = true) : RI (2 ^ bits.toNat) (iNew bits.toNat size.toNat room.toNat) (newM bits size room):=by
 obtain ⟨⟨a1,a2⟩,⟨a3,a4⟩,a5,a6⟩:=newMay_get h
 have hM:=newM_ok h
 have e : newM bits size room = mkM ((2 ^ bits.toNat : Nat) : Int) room (List.replicate size.toNat (mkCe 0 0)) [] []:=by unfold newM; rw [h]
 rw [e] at hM ⊢
 have k0 : ∀ c,kdM (mkM ((2 ^ bits.toNat : Nat) : Int) room (List.replicate size.toNat (mkCe 0 0)) [] []) c = 0:=fun c=>by
   unfold kdM
   show ceK ((List.replicate size.toNat (mkCe 0 0)).getD c (mkCe 0 0)) = 0
   rw [List.getD_eq_getElem?_getD,List.getElem?_replicate]
   split <;> rfl
 refine ⟨iNew_ok (by omega) (by omega) (by omega),hM,rfl,?_,?_,fun c hc=>?_,fun c hc hk=>?_,fun c d hc hd hk _ _=>?_⟩
 · show (List.replicate _ _).length = (List.replicate _ _).length
   rw [List.length_replicate,List.length_replicate]
 · show room = ((List.replicate room.toNat (0 : Int)).length : Nat)
   rw [List.length_replicate]
   omega
 · rw [k0]
   show (0 : Int) = ((List.replicate size.toNat s0).getD c s0).1
   rw [List.getD_eq_getElem?_getD,List.getElem?_replicate]
   split <;> rfl
 · rw [k0] at hk; exact absurd hk (by decide)
 · rw [k0] at hk; exact absurd hk (by decide)
theorem pt_mem {d e : Rdk} (h : e ∈ ptR l d) : e ∈ l ∨ e = d:=by
 obtain ⟨j,_,q,_,_⟩:=ptR_eq l d
 rw [q] at h
 rcases List.mem_append.1 h with h | h
 · rcases List.mem_append.1 h with h | h
   · exact .inl (List.mem_of_mem_take h)
   · exact .inr (List.mem_singleton.1 h)
 · exact .inl (List.mem_of_mem_drop h)
theorem RC.add (h : RC n bits room L l) (hC : CS bits room L) (nm : List UInt8) (size : Int) (ot : List UInt8) (p : Nat × Nat) (hC' : CS bits room (adC bits room L nm size ot p).L) :
   (adR bits room l nm size ot).2 = (adC bits room L nm size ot p).e ∧ RC n bits room (adC bits room L nm size ot p).L (adR bits room l nm size ot).1 ∧ ∀ e,e ∈ (adR bits room l nm size ot).1 → e ∈ l ∨ mD (dIm e) = []:=by
 obtain ⟨x1,x2⟩:=h.ix (x:=nm)
 obtain ⟨y1,y2⟩:=h.ix (x:=ot)
 unfold adC at hC' ⊢
 unfold adR
 by_cases c1 : newMay bits size room = false
 · rw [if_pos c1,if_pos (by rw [c1,Bool.and_false])]
   exact ⟨rfl,h,fun e he=>.inl he⟩
 have c1t : newMay bits size room = true:=by simpa using c1
 rw [if_neg c1]
 by_cases c2 : nameOK nm = false
 · rw [if_pos c2,if_pos (by rw [c2,Bool.false_and])]
   exact ⟨rfl,h,fun e he=>.inl he⟩
 have c2t : nameOK nm = true:=by simpa using c2
 rw [if_neg c2]
 have gA : ¬ (nameOK nm && newMay bits size room) = false:=by rw [c1t,c2t]; decide
 rw [if_neg gA] at hC' ⊢
 by_cases c3 : 0 ≤ fdI l nm
 · rw [if_pos c3,if_pos (.inl (x1.1 c3))]
   exact ⟨rfl,h,fun e he=>.inl he⟩
 rw [if_neg c3]
 have g3 : dk L nm = none:=x2.1 (by omega)
 by_cases c4 : 16 ≤ l.length
 · rw [if_pos c4,if_pos (.inr (by rw [← h.len]; exact c4))]
   exact ⟨rfl,h,fun e he=>.inl he⟩
 rw [if_neg c4]
 have gB : ¬ ((dk L nm).isSome = true ∨ 16 ≤ L.length):=by
   rw [g3,← h.len]
   rintro (q | q)
   · cases q
   · exact c4 q
 rw [if_neg gB] at hC' ⊢
 by_cases c5 : ot ≠ [] ∧ fdI l ot < 0
 · rw [if_pos c5,if_pos (by rw [decide_eq_false c5.1,y2.1 c5.2]; rfl)]
   exact ⟨rfl,h,fun e he=>.inl he⟩
 rw [if_neg c5]
 have g5 : ¬ (decide (ot = []) || (dk L ot).isSome) = false:=fun q=>by
   simp only [Bool.or_eq_false_iff,decide_eq_false_iff_not] at q
   refine c5 ⟨q.1,y2.2 ?_⟩
   cases e : dk L ot with
   | none=>rfl
   | some d=>rw [e] at q; cases q.2
 rw [if_neg g5] at hC' ⊢
 rw [h.dp hC ot]
 by_cases c6 : ot ≠ [] ∧ 8 ≤ dpt L ot
 · rw [if_pos c6,if_pos ⟨c6.1,by omega⟩]
   exact ⟨rfl,h,fun e he=>.inl he⟩
 rw [if_neg c6]
 have gD : ¬ (ot ≠ [] ∧ 8 < dpt L ot + 1):=fun q=>c6 ⟨q.1,by omega⟩
 rw [if_neg gD] at hC' ⊢
 have gn : gtR l (dN (mkDk nm ot (newM bits size room))) = none:=h.no g3
 refine ⟨rfl,RC.of h.n2 hC' (ptR_rise (h.rise hC) gn) fun y=>?_,fun e he=>?_⟩
 · rw [gt_pt gn,dk_add]
   show (_ ∧ (if y = nm then _ else _) = none) ∨ _
   by_cases q : y = nm
   · subst q
     right
     refine ⟨_,_,by rw [g3,if_pos rfl]; rfl,if_pos rfl,rfl,?_⟩
     have:=RI.new c1t
     rw [Int.toNat_natCast,Int.toNat_natCast,← h.n2] at this
     exact this
   · rw [if_neg (Ne.symm q)]
     have e0 : (dk L y).or none = dk L y:=by cases dk L y <;> rfl
     rw [e0]
     rcases h.both y with ⟨e1,e2⟩ | ⟨d,e,e1,e2,e3,e4⟩
     · exact .inl ⟨e1,by rw [if_neg q]; exact e2⟩
     · exact .inr ⟨d,e,e1,by rw [if_neg q]; exact e2,e3,e4⟩
 · rcases pt_mem he with he | he
   · exact .inl he
   · right
     subst he
     show mD (newM bits size room) = []
     unfold newM
     rw [c1t]
/-! ### remove -/
theorem dk_ldel_self {nm : List UInt8} : ∀ {L : List Dsk},(L.map (·.nm)).Nodup → dk (ldel L nm) nm = none
 | [],_=>rfl
 | d :: L,h=>by
   obtain ⟨h1,h2⟩:=List.nodup_cons.1 h
   unfold ldel
   by_cases e : d.nm = nm
   · rw [if_pos e]
     cases w : dk L nm with
     | none=>rfl
     | some v =>
       exfalso
       obtain ⟨g1,g2⟩:=dk_get w
       exact h1 (List.mem_map.2 ⟨v,g1,g2.trans e.symm⟩)
   · rw [if_neg e,dk_cons,if_neg e]
     exact dk_ldel_self h2
theorem RC.rm (h : RC n bits room L l) (hC : CS bits room L) (nm : List UInt8) : (rmR l nm).x = [] ∧ (rmR l nm).e = (rmC L nm).e ∧ RC n bits room (rmC L nm).L (rmR l nm).l ∧ ∀ e,e ∈ (rmR l nm).l → e ∈ l:=by
 have hC':=rmC_cs hC nm
 have hus:=h.us hC nm
 unfold rmC at hC' ⊢
 unfold rmR
 rcases h.both nm with ⟨e1,e2⟩ | ⟨d,e,e1,e2,e3,e4⟩
 · rw [e1,e2]
   exact ⟨rfl,rfl,h,fun e he=>he⟩
 rw [e1] at hC' ⊢
 rw [e2]
 simp only at hC' ⊢
 rw [hus]
 by_cases c : usrS L nm = []
 · rw [if_pos c] at hC' ⊢
   rw [if_neg (by rw [c]; decide)]
   obtain ⟨i,hi,i1,i2,i3⟩:=fdI_some e2
   have hii : (fdI l nm).toNat = i:=by rw [i1]; exact Int.toNat_natCast i
   refine ⟨rfl,rfl,?_,fun w hw=>?_⟩
   · show RC n bits room (ldel L nm) (l.take (fdI l nm).toNat ++ l.drop ((fdI l nm).toNat + 1))
     rw [hii]
     have hr:=h.rise hC
     have hs : l.take i ++ (l[i] :: l.drop (i + 1)) = l:=by rw [← List.drop_eq_getElem_cons hi]; exact List.take_append_drop ..
     have hl : ∀ z,gtR l z = (gtR (l.take i) z).or (if nm = z then some l[i] else gtR (l.drop (i + 1)) z):=fun z=>by
       have : gtR l z = gtR (l.take i ++ (l[i] :: l.drop (i + 1))) z:=by rw [hs]
       rw [this,gt_app,gtR,i2,i3]
     have hrr : ((l.take i ++ l.drop (i + 1)).map (fun e=>dN e)).Pairwise (· < ·):=by
       have hsub : (l.take i ++ l.drop (i + 1)).Sublist (l.take i ++ (l[i] :: l.drop (i + 1))):=List.Sublist.append_left (List.sublist_cons_self ..) _
       rw [hs] at hsub
       exact hr.sublist (hsub.map _)
     refine RC.of h.n2 hC' hrr fun y=>?_
     rw [gt_app]
     by_cases q : y = nm
     · subst q
       left
       refine ⟨dk_ldel_self hC.nms,?_⟩
       have hnd:=h.nodup hC
       rw [← hs,List.map_append,List.map_cons] at hnd
       have hn1 : gtR (l.take i) y = none:=by
         cases w : gtR (l.take i) y with
         | none=>rfl
         | some v =>
           exfalso
           have hm:=gt_mem.2 ⟨v,w⟩
           exact (List.nodup_append.1 hnd).2.2 _ hm _ (by rw [i2,i3]; exact List.mem_cons_self ..) rfl
       have hn2 : gtR (l.drop (i + 1)) y = none:=by
         cases w : gtR (l.drop (i + 1)) y with
         | none=>rfl
         | some v =>
           exfalso
           have hm:=gt_mem.2 ⟨v,w⟩
           have:=(List.nodup_cons.1 (List.nodup_append.1 hnd).2.1).1
           rw [i2,i3] at this
           exact this hm
       rw [hn1,hn2]
       rfl
     · rw [dk_ldel q]
       have:=hl y
       rw [if_neg (Ne.symm q)] at this
       rw [← this]
       exact h.both y
   · rcases List.mem_append.1 hw with hw | hw
     · exact List.mem_of_mem_take hw
     · exact List.mem_of_mem_drop hw
 · rw [if_neg c] at hC' ⊢
   have : 0 < (usrS L nm).length:=List.length_pos_iff.2 c
   rw [if_pos this]
   exact ⟨rfl,rfl,h,fun e he=>he⟩
end
end Go.Proofs.YteoamepgonpdlaaGreat
/-!
  Pulls, in plain words: what is between, the next cluster, a step; what a step leaves.
-/
namespace Go.Proofs.YteoamepgonpdlaaGreat
set_option linter.unusedVariables false
set_option linter.unusedSimpArgs false
set_option maxRecDepth 10000
open Go.RowKit Go.Proofs
/-! ### room: each cluster that is in use stands in one place of the table -/
/-! ### one cluster is written -/
section
variable {bits room : Nat} {L : List Dsk} {nm : List UInt8}
end
/-! ### the way down -/
theorem bl_get {L : List Dsk} {nm : List UInt8} {k : Nat} (h : Dn L nm k) {i : Nat} (hi : i < k) : (bl L k nm)[i]? = some (downTo L (i + 1) nm):=by
 have h1:=bl_take h i hi
 have h2:=bl_len h
 rw [List.take_add_one] at h1
 have h3:=List.append_cancel_left h1
 rw [List.getElem?_eq_getElem (by omega)] at h3 ⊢
 injection h3 with h3
 rw [h3]
theorem takeWhile_at {α : Type} (p : α → Bool) : ∀ (l : List α) (j : Nat),j ≤ l.length → (∀ i x,i < j → l[i]? = some x → p x = true) → (j = l.length ∨ ∃ x,l[j]? = some x ∧ p x = false) → l.takeWhile p = l.take j
 | [],j,hj,_,_=>by
   have : j = 0:=by simpa using hj
   subst this
   rfl
 | a :: l,0,_,_,h=>by
   rcases h with h | ⟨x,hx,hp⟩
   · cases h
   · injection hx with hx
     subst hx
     rw [List.takeWhile_cons,hp]
     rfl
 | a :: l,j + 1,hj,h1,h2=>by
   have ha:=h1 0 a (Nat.succ_pos j) rfl
   rw [List.takeWhile_cons,ha]
   show a :: l.takeWhile p = a :: l.take j
   rw [takeWhile_at p l j (by simpa using hj) (fun i x hi hx=>h1 (i + 1) x (by omega) hx) (h2.imp (fun e=>by simpa using e) id)]
def btL (L : List Dsk) (top base : List UInt8) : List (List UInt8):=(bl L (dpt L top) top).takeWhile fun n=>!decide (n = base)
def btI (L : List Dsk) (top base : List UInt8) : Bool:=(dk L top).isSome && (decide (base = []) || decide (base ∈ bl L (dpt L top) top))
def hol (L : List Dsk) (n : List UInt8) (k : Nat) : Bool:=match dk L n with
 | none=>true
 | some d=>decide (d.im.t.length ≤ k) || decide ((d.im.t.getD k s0).1 = 0)
def pnxP (L : List Dsk) (top base : List UInt8) (k : Nat) : Bool:=hol L top k && (btL L top base).any fun n=>!hol L n k
def szOf (L : List Dsk) (nm : List UInt8) : Nat:=match dk L nm with
 | none=>0
 | some d=>d.im.t.length
def pnx (L : List Dsk) (top base : List UInt8) : Option Nat:=if btI L top base = true then (List.range (szOf L top)).find? (pnxP L top base) else none
structure PR where
 done : Bool
 e : Int
 L : List Dsk
 over : Bool
def pstep (bits : Nat) (L : List Dsk) (top base : List UInt8) (over : Bool) : PR:=if (over || !(dk L top).isSome) = true then ⟨false,160,L,over⟩ else match pnx L top base with
 | some k=>⟨false,(wrC bits L top ((k * 2 ^ bits : Nat) : Int) (clC bits L top (k : Int))).e,(wrC bits L top ((k * 2 ^ bits : Nat) : Int) (clC bits L top (k : Int))).L,over⟩
 | none=>⟨decide ((rbC L top base).e = 0),(rbC L top base).e,(rbC L top base).L,decide ((rbC L top base).e = 0)⟩
/-- All that a disk reads. -/
def allC (bits : Nat) (L : List Dsk) (nm : List UInt8) : List UInt8:=match dk L nm with
 | none=>[]
 | some d=>crdK bits L nm (dpt L nm) 0 (d.im.t.length * 2 ^ bits)
section
variable {bits room : Nat} {L : List Dsk} {nm : List UInt8}
theorem szOf_lim (L : List Dsk) {t n : List UInt8} {d : Dsk} {im : ImS} (hd : dk L t = some d) (hs : Like d.im im) : szOf (lim L t im none) n = szOf L n ∧ (dk (lim L t im none) n).isSome = (dk L n).isSome:=by
 by_cases e : n = t
 · subst e
   unfold szOf
   rw [dk_lim_self hd,hd]
   exact ⟨hs.tl,rfl⟩
 · unfold szOf
   rw [dk_lim_ne e]
   exact ⟨rfl,rfl⟩
end
/-! ### what is between stands between -/
section
variable {bits room : Nat} {L : List Dsk} {top base : List UInt8}
theorem bt_split (h : CS bits room L) {d : Dsk} (hd : dk L top = some d) (hi : btI L top base = true) : bl L (dpt L top) top = btL L top base ++ (if base = [] then [] else base :: bl L (dpt L base) base) ∧ (base = [] ∨ ∃ e,dk L base = some e) ∧ dpt L base + (btL L top base).length + (if base = [] then 0 else 1) = dpt L top:=by
 have key : ∀ (k : Nat) (nm : List UInt8),Dn L nm k → (∃ d,dk L nm = some d) → (base = [] ∨ base ∈ bl L k nm) → bl L k nm = (bl L k nm).takeWhile (fun n=>!decide (n = base)) ++ (if base = [] then [] else base :: bl L (dpt L base) base) ∧ (base = [] ∨ ∃ e,dk L base = some e):=by
   intro k nm hD
   induction hD with
   | gone hg=>rintro ⟨d,hd⟩; rw [hg] at hd; cases hd
   | base h1 h2 =>
     rintro _ hb
     rcases hb with hb | hb
     · rw [if_pos hb]
       exact ⟨rfl,.inl hb⟩
     · cases hb
   | @step nm d k h1 h2 h3 ih =>
     rintro _ hb
     have hkn:=h.kn d (dk_get h1).1 h2
     have hbl : bl L (k + 1) nm = d.back :: bl L k d.back:=by
       conv=>lhs; unfold bl
       rw [h1]
     rw [hbl] at hb ⊢
     rw [List.takeWhile_cons]
     by_cases e : d.back = base
     · rw [decide_eq_true e]
       have hbn : ¬ base = []:=by rw [← e]; exact h2
       rw [if_neg hbn]
       refine ⟨?_,.inr (by rw [← e]; exact hkn)⟩
       show d.back :: bl L k d.back = [] ++ _
       rw [List.nil_append,e]
       rw [e] at h3
       rw [dn_det h3 (h.dep base).1]
     · rw [decide_eq_false e]
       obtain ⟨g1,g2⟩:=ih hkn (hb.imp id fun x=>(List.mem_cons.1 x).resolve_left fun y=>e y.symm)
       refine ⟨?_,g2⟩
       show d.back :: bl L k d.back = d.back :: _ ++ _
       rw [List.cons_append,← g1]
 unfold btI at hi
 rw [Bool.and_eq_true,Bool.or_eq_true] at hi
 obtain ⟨g1,g2⟩:=key _ top (h.dep top).1 ⟨d,hd⟩ (hi.2.imp of_decide_eq_true of_decide_eq_true)
 refine ⟨g1,g2,?_⟩
 have hl:=congrArg List.length g1
 rw [bl_len (h.dep top).1,List.length_append] at hl
 have hbb:=bl_len (h.dep base).1
 unfold btL
 by_cases e : base = []
 · rw [if_pos e] at hl ⊢
   have : dpt L base = 0:=by
     have hn : dk L base = none:=by
       cases x : dk L base with
       | none=>rfl
       | some y=>exact absurd e (known_ne h ⟨y,x⟩)
     exact dpt_of (.gone hn) (by omega)
   rw [List.length_nil] at hl
   omega
 · rw [if_neg e] at hl ⊢
   rw [List.length_cons] at hl
   omega
theorem bt_known (h : CS bits room L) {d : Dsk} (hd : dk L top = some d) : ∀ n,n ∈ btL L top base → n ≠ top ∧ ∃ e,dk L n = some e:=fun n hn=>by
 have hm : n ∈ bl L (dpt L top) top:=(List.takeWhile_sublist _).mem hn
 refine ⟨fun e=>?_,h.kn_all ⟨d,hd⟩ n (List.mem_cons_of_mem _ hm)⟩
 rw [e] at hm
 exact bl_self (h.dep top).1 hm
end
end Go.Proofs.YteoamepgonpdlaaGreat
/-!
  The program's chain and the document's: Rebase, what is done with an image; any call.
-/
namespace Go.Proofs.YteoamepgonpdlaaGreat
set_option linter.unusedVariables false
set_option linter.unusedSimpArgs false
set_option maxRecDepth 10000
open Go.RowKit Go.Proofs
section
variable {n bits room : Nat} {L L' : List Dsk} {l l' : List Rdk}
/-! ### rebase -/
theorem RC.loop (h : RC n bits room L l) (hC : CS bits room L) {nm ot : List UInt8} {e : Rdk} (he : gtR l nm = some e) (hot : ∃ d,dk L ot = some d) (hl : nm = ot ∨ nm ∈ bl L (dpt L ot) ot) : ∀ f,qdpF (stR l nm (mkDk (dN e) ot (dIm e))) f nm = f:=by
 have hN:=h.gtst hC he (e':=mkDk (dN e) ot (dIm e)) (show dN e = nm from gt_dN he)
 have hne : ot ≠ []:=known_ne hC hot
 obtain ⟨hD,_⟩:=hC.dep ot
 obtain ⟨J,hJ,eJ⟩ : ∃ J,J ≤ dpt L ot ∧ downTo L J ot = nm:=by
   rcases hl with q | q
   · exact ⟨0,Nat.zero_le _,q.symm⟩
   · obtain ⟨i,hi,e⟩:=List.getElem_of_mem q
     rw [bl_len hD] at hi
     have:=bl_get hD hi
     rw [List.getElem?_eq_getElem (by rw [bl_len hD]; exact hi),e] at this
     injection this with this
     exact ⟨i + 1,hi,this.symm⟩
 have key : ∀ f x,(∃ j,j ≤ J ∧ downTo L j ot = x) → qdpF (stR l nm (mkDk (dN e) ot (dIm e))) f x = f:=fun f=>by
   induction f with
   | zero=>intro x _; rfl
   | succ f ih =>
     rintro x ⟨j,hj,ej⟩
     by_cases q : x = nm
     · have ho : onR (stR l nm (mkDk (dN e) ot (dIm e))) x = some ot:=by
         unfold onR
         rw [hN,if_pos q]
         exact if_neg hne
       rw [qdpF,ho]
       simp only
       rw [ih ot ⟨0,Nat.zero_le _,rfl⟩]
     · have hjJ : j < J:=by
         rcases Nat.lt_or_ge j J with w | w
         · exact w
         · exfalso
           have : j = J:=by omega
           subst this
           exact q (ej.symm.trans eJ)
       obtain ⟨d1,hd1⟩:=down_known hC hD hot j (by omega)
       have hd1':=hd1
       rw [ej] at hd1
       obtain ⟨e1,g1,g2,_⟩:=h.get hd1
       have hnx : downTo L (j + 1) ot = d1.back:=by rw [downTo_succ,hd1']
       have hkn:=down_known hC hD hot (j + 1) (by omega)
       rw [hnx] at hkn
       have hb : d1.back ≠ []:=known_ne hC hkn
       have ho : onR (stR l nm (mkDk (dN e) ot (dIm e))) x = some d1.back:=by
         unfold onR
         rw [hN,if_neg q,g1]
         simp only
         rw [if_neg (fun w=>hb (g2.symm.trans w)),g2]
       rw [qdpF,ho]
       simp only
       rw [ih d1.back ⟨j + 1,by omega,hnx⟩]
 exact fun f=>key f nm ⟨J,Nat.le_refl _,eJ⟩
theorem RC.rb (h : RC n bits room L l) (hC : CS bits room L) (nm ot : List UInt8) : (rbR l nm ot).2 = (rbC L nm ot).e ∧ RC n bits room (rbC L nm ot).L (rbR l nm ot).1 ∧ ∀ e,e ∈ (rbR l nm ot).1 → ∃ e0,e0 ∈ l ∧ dIm e = dIm e0:=by
 have hC':=rbC_cs hC nm ot
 obtain ⟨y1,y2⟩:=h.ix (x:=ot)
 unfold rbC at hC' ⊢
 unfold rbR
 rcases h.both nm with ⟨e1,e2⟩ | ⟨d,e,e1,e2,e3,e4⟩
 · rw [e2,if_pos (.inl (by rw [e1]; rfl))]
   exact ⟨rfl,h,fun e he=>⟨e,he,rfl⟩⟩
 rw [e2]
 simp only
 by_cases c1 : ot ≠ [] ∧ fdI l ot < 0
 · rw [if_pos c1,if_pos (.inr (by rw [decide_eq_false c1.1,y2.1 c1.2]; rfl))]
   exact ⟨rfl,h,fun e he=>⟨e,he,rfl⟩⟩
 have hk : (decide (ot = []) || (dk L ot).isSome) = true:=by
   by_cases q : ot = []
   · rw [decide_eq_true q]; rfl
   · cases w : dk L ot with
     | none=>exact absurd ⟨q,y2.2 w⟩ c1
     | some v=>rw [Option.isSome_some,Bool.or_true]
 have g1 : ¬ ((dk L nm).isSome = false ∨ (decide (ot = []) || (dk L ot).isSome) = false):=by
   rw [e1,hk]
   rintro (q | q) <;> cases q
 rw [if_neg c1]
 rw [if_neg g1] at hC' ⊢
 have hN:=h.gtst hC e2 (e':=mkDk (dN e) ot (dIm e)) (show dN e = nm from gt_dN e2)
 by_cases c2 : nm = ot ∨ nm ∈ bl L (dpt L ot) ot
 · have hot : ∃ v,dk L ot = some v:=by
     rcases c2 with q | q
     · rw [← q]; exact ⟨d,e1⟩
     · obtain ⟨hD,_⟩:=hC.dep ot
       cases w : dk L ot with
       | some v=>exact ⟨v,rfl⟩
       | none =>
         exfalso
         have : dpt L ot = 0:=dn_det hD (.gone w)
         rw [this] at q
         cases q
   rw [if_pos c2,if_pos (show dqR _ nm = 99 from h.loop hC e2 hot c2 99)]
   exact ⟨rfl,h,fun e he=>⟨e,he,rfl⟩⟩
 rw [if_neg c2] at hC' ⊢
 have hd1 : nm ≠ ot:=fun q=>c2 (.inl q)
 have hd2 : nm ∉ bl L (dpt L ot) ot:=fun q=>c2 (.inr q)
 have hdl : ∀ y,dk (lset L nm ot) y = if y = nm then some { d with back:=ot } else dk L y:=fun y=>by
   rw [dk_lset]
   by_cases q : y = nm
   · rw [if_pos q,q,e1]
     show some (rbD nm ot d) = _
     unfold rbD
     rw [if_pos (dk_get e1).2]
   · rw [if_neg q]
     cases w : dk L y with
     | none=>rfl
     | some v =>
       show some (rbD nm ot v) = _
       rw [rbD_back_ne (by rw [(dk_get w).2]; exact q)]
 have hBK : BK (lset L nm ot) (stR l nm (mkDk (dN e) ot (dIm e))):=fun y=>by
   rw [hN,hdl]
   by_cases q : y = nm
   · rw [if_pos q,if_pos q]; rfl
   · rw [if_neg q,if_neg q]; exact h.bk y
 have hdp : ∀ x,dqR (stR l nm (mkDk (dN e) ot (dIm e))) x = dpt (lset L nm ot) x:=fun x=>by
   obtain ⟨w1,w2⟩:=hC.depR hd1 hd2 x
   exact hBK.dp w1 99 (by omega)
 have hall : (stR l nm (mkDk (dN e) ot (dIm e))).all (fun x=>decide (dqR (stR l nm (mkDk (dN e) ot (dIm e))) (dN x) ≤ 8)) = true ↔ ∀ x ∈ nmsS L,dpt (lset L nm ot) x ≤ 8:=by
   rw [List.all_eq_true]
   constructor
   · intro w x hx
     rw [← h.nm,← st_names e2 (e':=mkDk (dN e) ot (dIm e)) (show dN e = nm from gt_dN e2)] at hx
     obtain ⟨v,hv,rfl⟩:=List.mem_map.1 hx
     have:=of_decide_eq_true (w v hv)
     rw [hdp] at this
     exact this
   · intro w v hv
     have hx : dN v ∈ nmsS L:=by
       rw [← h.nm,← st_names e2 (e':=mkDk (dN e) ot (dIm e)) (show dN e = nm from gt_dN e2)]
       exact List.mem_map.2 ⟨v,hv,rfl⟩
     exact decide_eq_true (by rw [hdp]; exact w _ hx)
 rw [if_neg (show ¬ dqR _ nm = 99 by rw [hdp]; have:=(hC.depR hd1 hd2 nm).2; omega)]
 by_cases c3 : ∀ x ∈ nmsS L,dpt (lset L nm ot) x ≤ 8
 · rw [if_pos c3] at hC' ⊢
   rw [if_pos (hall.2 c3)]
   refine ⟨rfl,h.st hC hC' e1 e2 (show dN e = nm from gt_dN e2) hdl rfl e4,fun v hv=>?_⟩
   rcases st_mem hv with hv | hv
   · exact ⟨v,hv,rfl⟩
   · exact ⟨e,gtR_mem e2,by rw [hv]⟩
 · rw [if_neg c3] at hC' ⊢
   rw [if_neg (fun q=>c3 (hall.1 q))]
   exact ⟨rfl,h,fun e he=>⟨e,he,rfl⟩⟩
/-! ### with an image -/
theorem crdK_cut (hC : CS bits room L) {x : List UInt8} {d : Dsk} (hd : dk L x = some d) (a b N : Nat) (hN : a + b ≤ N) : crdK bits L x (dpt L x) a b = ((crdK bits L x (dpt L x) 0 N).take (16 * (a + b))).drop (16 * a):=by
 obtain ⟨hD,_⟩:=hC.dep x
 have hlen:=fun j=>crdK_len hC.toChOK hd hD 0 j
 have app : ∀ j,crdK bits L x (dpt L x) 0 (a + j) = crdK bits L x (dpt L x) 0 a ++ crdK bits L x (dpt L x) a j:=fun j=>by
   induction j with
   | zero=>show _ = _ ++ []; rw [List.append_nil]; rfl
   | succ j ih =>
     show crdK bits L x (dpt L x) 0 (a + j) ++ crdP bits L x (dpt L x) (0 + (a + j)) = _ ++ (crdK bits L x (dpt L x) a j ++ crdP bits L x (dpt L x) (a + j))
     rw [ih,List.append_assoc,Nat.zero_add]
 have tk : ∀ j,(crdK bits L x (dpt L x) 0 (a + b + j)).take (16 * (a + b)) = crdK bits L x (dpt L x) 0 (a + b):=fun j=>by
   induction j with
   | zero=>rw [← hlen (a + b)]; exact List.take_length
   | succ j ih =>
     rw [show a + b + (j + 1) = (a + b + j) + 1 by omega,crdK,List.take_append_of_le_length (by rw [hlen]; omega),ih]
 have:=tk (N - (a + b))
 rw [show a + b + (N - (a + b)) = N by omega] at this
 rw [this,app b,← hlen a,List.drop_left]
theorem RC.sc (h : RC n bits room L l) (hC : CS bits room L) (nm : List UInt8) (q : Cq) (hq : qK q = 0 ∨ qK q = 1 ∨ qK q = 2 ∨ qK q = 3) (hd : ∀ e,e ∈ l → (mD (dIm e)).length + 256 ≤ 100000) :
   (scR n l nm q).x = (doQ bits L nm q).x ∧ (scR n l nm q).e = (doQ bits L nm q).e ∧ RC n bits room (doQ bits L nm q).L (scR n l nm q).l ∧ ∀ e,e ∈ (scR n l nm q).l → ∃ e0,e0 ∈ l ∧ (mD (dIm e)).length ≤ (mD (dIm e0)).length + 256:=by
 have hC':=doQ_cs hC nm q
 unfold scR
 rcases h.both nm with ⟨e1,e2⟩ | ⟨d,e,e1,e2,e3,e4⟩
 · rw [e2]
   simp only
   have hx : (doQ bits L nm q).x = [] ∧ (doQ bits L nm q).e = 140 ∧ (doQ bits L nm q).L = L:=by
     unfold doQ
     rcases hq with c | c | c | c
     · rw [if_pos c]; unfold rdC; rw [e1]; exact ⟨rfl,rfl,rfl⟩
     · rw [if_neg (by omega),if_pos c]; unfold wrC; rw [e1]; exact ⟨rfl,rfl,rfl⟩
     · rw [if_neg (by omega),if_neg (by omega),if_pos c]; unfold zrC; rw [e1]; exact ⟨rfl,rfl,rfl⟩
     · rw [if_neg (by omega),if_neg (by omega),if_neg (by omega),if_pos c]; unfold dsC; rw [e1]; exact ⟨rfl,rfl,rfl⟩
   rw [hx.1,hx.2.1,hx.2.2]
   exact ⟨rfl,rfl,h,fun e he=>⟨e,he,by omega⟩⟩
 rw [e2]
 simp only
 have hde:=hd e (gtR_mem e2)
 have hcl:=e4.ok.cl
 have hins:=fun a b=>e4.insEq a b
 have hkeep : RC n bits room L (stR l nm (mkDk (dN e) (dB e) (dIm e))):=h.st hC hC e1 e2 (d':=d) (e':=mkDk (dN e) (dB e) (dIm e)) (show dN e = nm from gt_dN e2) (fun y=>by
   by_cases w : y = nm
   · rw [if_pos w,w,e1]
   · rw [if_neg w]) e3 e4
 have hmem : ∀ m',(mD m').length ≤ (mD (dIm e)).length + 256 → ∀ v,v ∈ stR l nm (mkDk (dN e) (dB e) m') → ∃ e0,e0 ∈ l ∧ (mD (dIm v)).length ≤ (mD (dIm e0)).length + 256:=fun m' hm v hv=>by
   rcases st_mem hv with hv | hv
   · exact ⟨v,hv,by omega⟩
   · exact ⟨e,gtR_mem e2,by rw [hv]; exact hm⟩
 have hnew : ∀ im' m',CS bits room (lim L nm im' none) → RI n im' m' → RC n bits room (lim L nm im' none) (stR l nm (mkDk (dN e) (dB e) m')):=fun im' m' hc hr=>h.st hC hc e1 e2 (d':={ d with im:=im',pin:=none }) (show dN e = nm from gt_dN e2) (fun y=>by
   by_cases w : y = nm
   · rw [if_pos w,w,dk_lim_self e1]
   · rw [if_neg w,dk_lim_ne w]) e3 hr
 have hbel : ∀ c,c < d.im.t.length → kdM (dIm e) c = 0 → (beR n l nm (mC (dIm e)).length)[c]? = some (belY bits L nm (dpt L nm) c) ∧ (belY bits L nm (dpt L nm) c).length = 16 * n:=fun c hc hk=>by
   refine ⟨?_,by rw [belY_len hC e1,h.n2]⟩
   unfold beR
   rw [List.getElem?_map,List.getElem?_range (by rw [e4.len]; exact hc),Option.map_some,h.cl hC ⟨d,e1⟩ c,cseen_hole e1]
   rintro ⟨_,w⟩
   rw [← e4.kd c hc] at w
   exact w hk
 have hwdl : ∀ a b bs bel zero k,k ≤ 256 → (mD (wTo n a b bs bel zero (dIm e) k)).length ≤ (mD (dIm e)).length + 256:=fun a b bs bel zero k hk=>by
   have:=wTo_dl n a b bs bel zero (dIm e) k
   omega
 unfold doQ at hC' ⊢
 by_cases c0 : qK q = 0
 · rw [if_pos c0,if_pos c0]
   unfold rdC
   rw [e1]
   simp only
   rw [hins]
   by_cases w : insE n (mC (dIm e)).length (qA q) (qL q) = 0
   · rw [if_pos w,if_pos w]
     obtain ⟨b1,b2,b3⟩:=insE_zero w
     refine ⟨?_,rfl,h,fun e he=>⟨e,he,by omega⟩⟩
     have ha:=h.al hC ⟨d,e1⟩ (mC (dIm e)).length
     rw [crdK_cut hC e1 (qA q).toNat (qL q).toNat (n * (mC (dIm e)).length) (by omega),ha]
     show ((alTo n l nm (mC (dIm e)).length).take (16 * (qA q + qL q)).toNat).drop (16 * qA q).toNat = _
     rw [show (16 * (qA q + qL q)).toNat = 16 * ((qA q).toNat + (qL q).toNat) by omega,show (16 * qA q).toNat = 16 * (qA q).toNat by omega]
   · rw [if_neg w,if_neg w]
     exact ⟨rfl,rfl,h,fun e he=>⟨e,he,by omega⟩⟩
 rw [if_neg c0]
 rw [if_neg c0] at hC' ⊢
 by_cases c1 : qK q = 1
 · rw [if_pos c1] at hC' ⊢
   have ed : doM n (dIm e) q (beR n l nm (mC (dIm e)).length) = writeM n (dIm e) (qA q) (qB q) (beR n l nm (mC (dIm e)).length) false:=if_pos c1
   rw [ed]
   unfold writeM
   unfold wrC at hC' ⊢
   rw [e1] at hC' ⊢
   simp only at hC' ⊢
   rw [hins] at hC' ⊢
   by_cases w1 : (qB q).length % 16 ≠ 0
   · rw [if_pos w1,if_pos w1]
     exact ⟨rfl,rfl,hkeep,hmem (dIm e) (Nat.le_add_right _ _)⟩
   rw [if_neg w1] at hC' ⊢
   rw [if_neg w1]
   by_cases w2 : insE n (mC (dIm e)).length (qA q) ((qB q).length / 16 : Nat) = 0
   · rw [if_neg (fun g=>g w2)] at hC' ⊢
     rw [if_pos w2]
     have w2':=w2
     rw [← hins] at w2'
     have hpos:=iIns_pos w2'
     have hall : (qA q).toNat + (qB q).length / 16 ≤ iall d.im:=by
       have:=insE_zero w2
       rw [e4.all]
       omega
     have hbl : (qB q).length = 16 * ((qB q).length / 16):=by omega
     have hnd:=e4.need (a:=(qA q).toNat) (l:=(qB q).length / 16) hall
     rw [e4.free,hnd]
     unfold iwE iwS at *
     by_cases w3 : ndK d.im (qA q).toNat ((qB q).length / 16) (pcN (wid d.im) (qA q).toNat ((qB q).length / 16)) ≤ zeros d.im.l
     · have w4 : ¬ ((zeros d.im.l : Nat) : Int) < ((ndK d.im (qA q).toNat ((qB q).length / 16) (pcN (wid d.im) (qA q).toNat ((qB q).length / 16)) : Nat) : Int):=by omega
       rw [if_neg w4]
       rw [if_pos w3,if_pos w3] at hC'
       rw [if_pos w3,if_pos w3]
       exact ⟨rfl,rfl,hnew _ _ hC' (e4.wr hbl hall hbel hde w3),hmem _ (hwdl _ _ _ _ _ _ hcl)⟩
     · have w4 : ((zeros d.im.l : Nat) : Int) < ((ndK d.im (qA q).toNat ((qB q).length / 16) (pcN (wid d.im) (qA q).toNat ((qB q).length / 16)) : Nat) : Int):=by omega
       rw [if_pos w4]
       rw [if_neg w3,if_neg w3] at hC'
       rw [if_neg w3,if_neg w3]
       refine ⟨rfl,rfl,hnew _ _ hC' e4,hmem (dIm e) (Nat.le_add_right _ _)⟩
   · rw [if_pos w2]
     rw [if_neg w2]
     exact ⟨rfl,rfl,hkeep,hmem (dIm e) (Nat.le_add_right _ _)⟩
 rw [if_neg c1] at hC' ⊢
 by_cases c2 : qK q = 2
 · rw [if_pos c2] at hC' ⊢
   have ed : doM n (dIm e) q (beR n l nm (mC (dIm e)).length) = if insE n (mC (dIm e)).length (qA q) (qL q) = 0 then writeM n (dIm e) (qA q) (List.replicate (16 * qL q).toNat 0) (beR n l nm (mC (dIm e)).length) true else (dIm e,insE n (mC (dIm e)).length (qA q) (qL q)):=(if_neg c1).trans (if_pos c2)
   rw [ed]
   unfold zrC at hC' ⊢
   rw [e1] at hC' ⊢
   simp only at hC' ⊢
   rw [hins] at hC' ⊢
   by_cases w2 : insE n (mC (dIm e)).length (qA q) (qL q) = 0
   · rw [if_neg (fun g=>g w2)] at hC' ⊢
     rw [if_pos w2]
     obtain ⟨b1,b2,b3⟩:=insE_zero w2
     have hall : (qA q).toNat + (qL q).toNat ≤ iall d.im:=by rw [e4.all]; omega
     have er : (16 * qL q).toNat = 16 * (qL q).toNat:=by omega
     unfold writeM
     rw [er,List.length_replicate,if_neg (by omega),show 16 * (qL q).toNat / 16 = (qL q).toNat by omega,show (((qL q).toNat : Nat) : Int) = qL q by omega,if_pos w2]
     have hnd:=e4.zneed (a:=(qA q).toNat) (l:=(qL q).toNat) hall
     rw [e4.free,hnd]
     unfold izE izS at *
     by_cases w3 : zdK d.im (qA q).toNat (qL q).toNat (pcN (wid d.im) (qA q).toNat (qL q).toNat) ≤ zeros d.im.l
     · have w4 : ¬ ((zeros d.im.l : Nat) : Int) < ((zdK d.im (qA q).toNat (qL q).toNat (pcN (wid d.im) (qA q).toNat (qL q).toNat) : Nat) : Int):=by omega
       rw [if_neg w4]
       rw [if_pos w3,if_pos w3] at hC'
       rw [if_pos w3,if_pos w3]
       exact ⟨rfl,rfl,hnew _ _ hC' (e4.zr hall hbel hde w3),hmem _ (hwdl _ _ _ _ _ _ hcl)⟩
     · have w4 : ((zeros d.im.l : Nat) : Int) < ((zdK d.im (qA q).toNat (qL q).toNat (pcN (wid d.im) (qA q).toNat (qL q).toNat) : Nat) : Int):=by omega
       rw [if_pos w4]
       rw [if_neg w3,if_neg w3] at hC'
       rw [if_neg w3,if_neg w3]
       refine ⟨rfl,rfl,hnew _ _ hC' e4,hmem (dIm e) (Nat.le_add_right _ _)⟩
   · rw [if_pos w2]
     rw [if_neg w2]
     exact ⟨rfl,rfl,hkeep,hmem (dIm e) (Nat.le_add_right _ _)⟩
 rw [if_neg c2] at hC' ⊢
 have c3 : qK q = 3:=by omega
 rw [if_pos c3] at hC' ⊢
 have ed : doM n (dIm e) q (beR n l nm (mC (dIm e)).length) = discM n (dIm e) (qA q) (qL q):=(if_neg c1).trans (if_neg c2)
 rw [ed]
 unfold discM
 unfold dsC at hC' ⊢
 rw [e1] at hC' ⊢
 simp only at hC' ⊢
 rw [hins] at hC' ⊢
 by_cases w2 : insE n (mC (dIm e)).length (qA q) (qL q) = 0
 · rw [if_neg (fun g=>g w2)] at hC' ⊢
   rw [if_pos w2]
   obtain ⟨b1,b2,b3⟩:=insE_zero w2
   have hall : (qA q).toNat + (qL q).toNat ≤ iall d.im:=by rw [e4.all]; omega
   refine ⟨rfl,rfl,hnew _ _ hC' (e4.ds hall),hmem _ ?_⟩
   have : ∀ k,mD (dcTo n (qA q).toNat (qL q).toNat (dIm e) k) = mD (dIm e):=fun k=>by
     induction k with
     | zero=>rfl
     | succ k ih =>
       unfold dcTo
       split
       · exact ih
       · exact ih
   rw [this]
   omega
 · rw [if_pos w2]
   rw [if_neg w2]
   exact ⟨rfl,rfl,hkeep,hmem (dIm e) (Nat.le_add_right _ _)⟩
/-! ### any call -/
theorem RC.step (h : RC n bits room L l) (hC : CS bits room L) (o : Cop) (p : Nat × Nat) (hC' : CS bits room (doC bits room L o p).L) (hd : ∀ e,e ∈ l → (mD (dIm e)).length + 256 ≤ 100000) :
   (doR14 n bits room l o).x = (doC bits room L o p).x ∧ (doR14 n bits room l o).e = (doC bits room L o p).e ∧ RC n bits room (doC bits room L o p).L (doR14 n bits room l o).l ∧ ∀ e,e ∈ (doR14 n bits room l o).l → ∃ k,(mD (dIm e)).length ≤ k + 256 ∧ (k = 0 ∨ ∃ e0,e0 ∈ l ∧ k = (mD (dIm e0)).length):=by
 have same : ∀ e,e ∈ l → ∃ k,(mD (dIm e)).length ≤ k + 256 ∧ (k = 0 ∨ ∃ e0,e0 ∈ l ∧ k = (mD (dIm e0)).length):=fun e he=>⟨_,Nat.le_add_right _ _,.inr ⟨e,he,rfl⟩⟩
 unfold doC at hC' ⊢
 unfold doR14
 by_cases c0 : cK o = 0
 · rw [if_pos c0] at hC' ⊢
   rw [if_pos c0]
   obtain ⟨g1,g2,g3⟩:=h.add hC (cNm o) (cSz o) (cOt o) p hC'
   refine ⟨rfl,g1,g2,fun e he=>?_⟩
   rcases g3 e he with w | w
   · exact same e w
   · exact ⟨0,by rw [w]; exact Nat.zero_le _,.inl rfl⟩
 rw [if_neg c0]
 rw [if_neg c0] at hC' ⊢
 by_cases c1 : cK o = 1
 · rw [if_pos c1] at hC' ⊢
   rw [if_pos c1]
   obtain ⟨g1,g2,g3,g4⟩:=h.rm hC (cNm o)
   exact ⟨g1,g2,g3,fun e he=>same e (g4 e he)⟩
 rw [if_neg c1]
 rw [if_neg c1] at hC' ⊢
 by_cases c2 : cK o = 2
 · rw [if_pos c2] at hC' ⊢
   rw [if_pos c2]
   obtain ⟨g1,g2,g3⟩:=h.rb hC (cNm o) (cOt o)
   refine ⟨rfl,g1,g2,fun e he=>?_⟩
   obtain ⟨e0,w1,w2⟩:=g3 e he
   exact ⟨_,by rw [w2]; exact Nat.le_add_right _ _,.inr ⟨e0,w1,rfl⟩⟩
 rw [if_neg c2]
 rw [if_neg c2] at hC' ⊢
 by_cases c3 : cK o = 3
 · rw [if_pos c3] at hC' ⊢
   by_cases c4 : 0 ≤ qK (cQ o) ∧ qK (cQ o) ≤ 3
   · rw [if_pos ⟨c3,c4⟩]
     obtain ⟨g1,g2,g3,g4⟩:=h.sc hC (cNm o) (cQ o) (by omega) hd
     refine ⟨g1,g2,g3,fun e he=>?_⟩
     obtain ⟨e0,w1,w2⟩:=g4 e he
     exact ⟨_,w2,.inr ⟨e0,w1,rfl⟩⟩
   · rw [if_neg (fun w=>c4 w.2)]
     have e : doQ bits L (cNm o) (cQ o) = ⟨[],0,L⟩:=by
       unfold doQ
       rw [if_neg (by omega),if_neg (by omega),if_neg (by omega),if_neg (by omega)]
     rw [e]
     exact ⟨rfl,rfl,h,same⟩
 · rw [if_neg c3,if_neg (fun w=>c3 w.1)]
   exact ⟨rfl,rfl,h,same⟩
end
end Go.Proofs.YteoamepgonpdlaaGreat
