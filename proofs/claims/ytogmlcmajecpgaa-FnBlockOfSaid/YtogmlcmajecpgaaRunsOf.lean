/- Contracts of RunsOf. -/
import Derived.Test.YtogmlcmajecpgaaCollect
namespace Go.Proofs.Ytogmlcmajecpgaa
open Go.RowKit

/-- The slice v owns the runs l, in memory from base on. -/
def OwnR (base : Nat) (w : World) (v : Value) (l : List (Int × Int)) : Prop := w.ownsRow base 48 2 v l.length (VR l)
theorem OwnR.base {base base' : Nat} {w : World} {v : Value} {l : List (Int × Int)} (h : OwnR base w v l) (hb : base' ≤ base) : OwnR base' w v l := by
  refine ⟨h.1, ?_⟩
  rcases h.2 with hn | ⟨g, cap, cur, hv, hg, rest⟩
  · exact .inl hn
  · exact .inr ⟨g, cap, cur, hv, Nat.le_trans hb hg, rest⟩
/-- The slice v reads as the runs l, lies in lo..hi-1 and may be written. -/
def SnR (lo hi : Nat) (w : World) (v : Value) (l : List (Int × Int)) : Prop :=
  ∃ a cap, v = .slice a l.length cap ∧ l.length ≤ cap ∧ (0 < l.length → ∃ g off, a = some ⟨g, off, none⟩ ∧ lo ≤ g ∧ g < hi ∧ ∀ i, i < l.length → (w.cell? ⟨g, off + i * 2, none⟩ = some (.int .i64 (zr l i)) ∧ w.cell? ⟨g, off + i * 2 + 1, none⟩ = some (.int .i64 (lv l i))) ∧ w.frozen? ⟨g, off + i * 2, none⟩ = false ∧ w.frozen? ⟨g, off + i * 2 + 1, none⟩ = false)
theorem SnR.kept {lo hi : Nat} {w w' : World} {v : Value} {l : List (Int × Int)} (h : SnR lo hi w v l) (hk : ∀ g, lo ≤ g → g < hi → w'.heap[g]? = w.heap[g]?) : SnR lo hi w' v l := by
  obtain ⟨a, cap, hv, hn, h⟩ := h
  refine ⟨a, cap, hv, hn, fun h0 => ?_⟩
  obtain ⟨g, off, ha, h1, h2, hc⟩ := h h0
  exact ⟨g, off, ha, h1, h2, fun i hi => ⟨⟨(World.cell?_of_block (w := w) (hk g h1 h2)).trans (hc i hi).1.1, (World.cell?_of_block (w := w) (hk g h1 h2)).trans (hc i hi).1.2⟩, (World.frozen?_of_block (w := w) (hk g h1 h2)).trans (hc i hi).2.1, (World.frozen?_of_block (w := w) (hk g h1 h2)).trans (hc i hi).2.2⟩⟩
theorem SnR.below {lo hi C : Nat} {w w' : World} {v : Value} {l : List (Int × Int)} (h : SnR lo hi w v l) (hb : Below C w w') (hC : hi ≤ C) : SnR lo hi w' v l := h.kept fun g _ hg => hb.block g (by omega)
theorem SnR.sr {lo hi : Nat} {w : World} {v : Value} {l : List (Int × Int)} (h : SnR lo hi w v l) : SrR hi w v l := by
  obtain ⟨a, cap, hv, hn, h⟩ := h
  refine ⟨a, cap, hv, hn, fun h0 => ?_⟩
  obtain ⟨g, off, ha, h1, h2, hc⟩ := h h0
  exact ⟨g, off, ha, h2, fun i hi => (hc i hi).1⟩
theorem SnR.mono {lo hi lo' hi' : Nat} {w : World} {v : Value} {l : List (Int × Int)} (h : SnR lo hi w v l) (h1 : lo' ≤ lo) (h2 : hi ≤ hi') : SnR lo' hi' w v l := by
  obtain ⟨a, cap, hv, hn, h⟩ := h
  refine ⟨a, cap, hv, hn, fun h0 => ?_⟩
  obtain ⟨g, off, ha, a1, a2, hc⟩ := h h0
  exact ⟨g, off, ha, by omega, by omega, hc⟩
theorem OwnR.sn {base : Nat} {w : World} {v : Value} {l : List (Int × Int)} (h : OwnR base w v l) : SnR base w.heap.size w v l := by
  have h2 := h
  rcases h.2 with ⟨rfl, h0⟩ | ⟨g, cap, cur, rfl, hg, hh, hn, hm, hs, ht⟩
  · exact ⟨none, 0, by rw [h0], by omega, fun h => absurd h (by omega)⟩
  · refine ⟨_, _, rfl, hn, fun _ => ⟨g, 0, rfl, hg, (Array.getElem?_eq_some_iff.1 hh).1, fun i hi => ?_⟩⟩
    obtain ⟨g1, g2⟩ := VR_get l i hi
    have c1 := World.ownsRow.cells h2 (g := g) rfl (i * 2) _ g1
    have c2 := World.ownsRow.cells h2 (g := g) rfl (i * 2 + 1) _ g2
    rw [show (⟨g, 0, none⟩ : Addr).add (i * 2) = ⟨g, 0 + i * 2, none⟩ from Addr.add_mid _ _ _] at c1
    rw [show (⟨g, 0, none⟩ : Addr).add (i * 2 + 1) = ⟨g, 0 + i * 2 + 1, none⟩ from by rw [Addr.add_mid, ← Nat.add_assoc]] at c2
    exact ⟨⟨c1, c2⟩, frozen_of_row w g _ _ _ hh, frozen_of_row w g _ _ _ hh⟩
theorem OwnR.kept {base : Nat} {w w' : World} {v : Value} {l : List (Int × Int)} (h : OwnR base w v l) (hk : ∀ g, v.ownBlock = some g → w'.heap[g]? = w.heap[g]?) : OwnR base w' v l := by
  refine ⟨h.1, ?_⟩
  rcases h.2 with hn | ⟨g, cap, cur, hv, hg, hh, rest⟩
  · exact .inl hn
  · exact .inr ⟨g, cap, cur, hv, hg, (hk g (by rw [hv]; rfl)).trans hh, rest⟩
theorem OwnR.lt {base : Nat} {w : World} {v : Value} {l : List (Int × Int)} (h : OwnR base w v l) : ∀ g, v.ownBlock = some g → base ≤ g ∧ g < w.heap.size := World.ownsRow.lt h
theorem OwnR.alloc {base : Nat} {w : World} {v : Value} {l : List (Int × Int)} (h : OwnR base w v l) (o : Obj) : OwnR base (w.alloc o) v l := World.ownsRow.alloc h o
theorem appendRun {ops : Array Oper} {rest : List Oper} {o : Oper} {a : Act} {w : World} {Q : Exit → Act → World → Prop} {s x : Operand} (base : Nat) {v : Value} {l : List (Int × Int)} (y z : Int) (G : Nat) (hown : OwnR base w v l) (hc : RunB w G 48 y z) (hn : l.length ≤ 1000000) (hbase : base ≤ w.heap.size)
    (hgd : o.guard = none) (ho : o.op = .call { callee := .builtin .append, args := #[s, x], argTypes := #[39, 39] }) (hs : a.eval s = v) (hx : a.eval x = .slice (some ⟨G, 0, none⟩) 1 1)
    (h : ∀ v' w', OwnR base w' v' (l ++ [(y, z)]) → w.grownBy w' v.ownBlock → AtNew w v v' → wpList Try.prog ops Q rest (a.put o.dst v') w') : wpList Try.prog ops Q (o :: rest) a w := by
  obtain ⟨i0, hi, hz0, hz1, hz2⟩ := info_parts infoRun
  have e0 : w.cell? ⟨G, 0, none⟩ = some (.int .i64 y) := by rw [cell_of_row _ _ 0 _ _ _ hc]; rfl
  have e1 : w.cell? ⟨G, 1, none⟩ = some (.int .i64 z) := by rw [cell_of_row _ _ 1 _ _ _ hc]; rfl
  refine wpList_append_own_at _ hgd s x 39 ho base 48 i0 (.agg #[.int .i64 0, .int .i64 0]) 2 16 Try.underlying39 hi hz0 hz1 hz2 rfl (by decide) v l.length _ hs hown ⟨G, 0, none⟩ 1 1 [.int .i64 y, .int .i64 z] hx rfl ?_ ?_ (by unfold maxLen; omega) (by omega) hbase ?_
  · intro j u hj
    match j, hj with
    | 0, hj => simp at hj; subst hj; simpa [Addr.add] using e0
    | 1, hj => simp at hj; subst hj; simpa [Addr.add] using e1
    | j + 2, hj => simp at hj
  · simp [Value.oneCell']
  · intro v' w' h1 h2 _ h4
    refine h v' w' ?_ h2 h4
    unfold OwnR
    rw [VR_snoc]
    simpa using h1
theorem collect_any (b : Nat → Int) (Bl : Nat) (w : World) (hBl : Blk w Bl 16 29 b) :
    Calls Try.prog 38 #[.func (.func 44) #[] #[.pointer (some ⟨Bl, 0, none⟩)]] w fun e w' => ∃ v, e = .returned v ∧ OwnR w.heap.size w' v (runsB b) ∧ Below w.heap.size w w' := by
  go_enter Try.func38, Try.ntmps38
  go_wp2_with fail
  refine (appendSeq_any b Bl _ hBl).mono ?_; rintro e w1 ⟨v, rfl, ho, hb⟩
  have HO := Lib.hid ho; clear ho
  go_wp2_with fail
  go_ret
  exact ⟨v, rfl, HO.out, hb⟩
theorem iRunsOf_any (b : Nat → Int) (w : World) :
    Calls Try.prog 27 #[.agg (VN 16 b)] w fun e w' => ∃ v, e = .returned v ∧ OwnR w.heap.size w' v (runsB b) ∧ Below w.heap.size w w' := by
  have h0 := Blk.new w 16 29 b
  have hb0 : Below w.heap.size w (w.alloc (.cells (VN 16 b) 29)) := (Below.refl _ _).alloc (Nat.le_refl _) _
  go_enter Try.func27, Try.ntmps27
  go_wp2_with (refine load16 w.heap.size h0 rfl rfl rfl ?_)
  refine (runsIn_any b _).mono ?_; rintro e w1 ⟨rfl, rfl⟩
  have h1 : Blk ((w.alloc (.cells (VN 16 b) 29)).alloc (.cells (VN 16 b) 29)) (w.heap.size + 1) 16 29 b := Blk.new' (by simp)
  have hb1 := hb0.alloc hb0.size (.cells (VN 16 b) 29)
  have hs1 := hb1.size
  clear h0
  go_wp2_with fail
  refine (collect_any b _ _ h1).mono ?_; rintro e w2 ⟨v, rfl, ho, hb2⟩
  have HO := Lib.hid (ho.base hs1)
  have HB := Lib.hid (hb1.trans (hb2.mono hs1))
  clear ho hb2 h1 hb1
  go_wp2_with fail
  go_ret
  exact ⟨v, rfl, HO.out, HB.out⟩
set_option maxHeartbeats 1000000 in
theorem sRunsOf_any (b : Nat → Int) (w : World) :
    Calls Try.prog 26 #[.agg (VN 16 b)] w fun e w' => ∃ v, e = .returned v ∧ OwnR w.heap.size w' v (runsB b) ∧ Below w.heap.size w w' := by
  have hL : Blk ((w.alloc (.cells (VN 16 b) 29)).alloc (.cells #[] 48)) w.heap.size 16 29 b := (Blk.new w 16 29 b).alloc _
  have hO : OwnR (w.heap.size + 1) ((w.alloc (.cells (VN 16 b) 29)).alloc (.cells #[] 48)) (.slice (some ⟨w.heap.size + 1, 0, none⟩) 0 0) [] := by
    have := World.ownsRow_made (base := w.heap.size + 1) (e := 48) (size := 2) (w.alloc (.cells (VN 16 b) 29)) #[] 0 (by simp) (by unfold maxLen; omega) rfl
    unfold OwnR
    simpa [VR] using this
  have hb : Below w.heap.size w ((w.alloc (.cells (VN 16 b) 29)).alloc (.cells #[] 48)) := ((Below.refl _ _).alloc (Nat.le_refl _) _).alloc (by simp) _
  obtain ⟨w0, hw0⟩ : ∃ w0, w0 = (w.alloc (.cells (VN 16 b) 29)).alloc (.cells #[] 48) := ⟨_, rfl⟩
  have hs0 : w.heap.size + 2 = w0.heap.size := by rw [hw0]; simp
  rw [← hw0] at hL hO hb
  have HW := Lib.hid hw0; clear hw0
  have HO := Lib.hid hO; have HL := Lib.hid hL; have HB := Lib.hid hb; clear hO hL hb
  go_enter Try.func26, Try.ntmps26
  go_wp2_with fail
  rw [← HW.out]; clear HW
  refine (sScanOrder_any _).mono ?_; rintro e w1 ⟨sv, rfl, hS, hb1⟩
  have z1 := hb1.size
  replace HL := Lib.hid (HL.out.below hb1 (by omega)); replace HB := Lib.hid (HB.out.trans (hb1.mono (by omega)))
  have hO1 := OwnR.kept HO.out (fun g hg => hb1.block g (OwnR.lt HO.out g hg).2)
  clear hb1 HO
  obtain ⟨oa, oc, rfl, hoc, hS⟩ := hS
  obtain ⟨q, oo, rfl, ho1, ho2, hS⟩ := hS (by omega)
  have HS := Lib.hid hS; clear hS
  go_wp2_with fail
  go_loopw [3, 5, 6] (fun v z i wr => ∃ (k m : Nat) (pre : List (Int × Int)), k ≤ 16 ∧ i = .int .i64 k ∧ z = .int .i64 m ∧ m ≤ 16 ∧ Hid (rTo (scB b) k = (pre, m)) ∧ pre.length ≤ 16 ∧ OwnR (w.heap.size + 1) wr v pre ∧ v.ownBlock ≠ some q ∧ Blk wr w.heap.size 16 29 b ∧ wr.heap[q]? = w1.heap[q]? ∧ Below w.heap.size w wr) (fun _ _ i _ => 16 - (intOf i).toNat)
  case atStart => exact ⟨0, 0, [], by omega, rfl, rfl, by omega, Lib.hid rfl, by simp, hO1, by simp [Value.ownBlock]; omega, HL.out, rfl, HB.out⟩
  case round =>
    clear hO1 HL HB
    obtain ⟨k, m, pre, hk, rfl, rfl, hm, HP, hlen, hO, hoq, hL, hqq, hb⟩ := hrel
    have HO := Lib.hid hO; clear hO
    by_cases hlt : k < 16
    · have hlt' : (k : Int) < 16 := by omega
      have hlm : pre.length + m ≤ k := by have := rTo_len (scB b) k; rw [HP.out] at this; exact this
      obtain ⟨p, hp⟩ : ∃ p : Nat, scN k = p := ⟨_, rfl⟩
      have hp16 : p < 16 := by rw [← hp]; exact scN_lt k hlt
      have hp1 : (p : Int) < 16 := by omega
      have o1 := (World.cell?_of_block (a := ⟨q, oo + k, none⟩) hqq).trans (HS.out k hlt).1
      rw [show scF k = (p : Int) by unfold scF; rw [hp]] at o1
      obtain ⟨x, hx⟩ : ∃ x, b p = x := ⟨_, rfl⟩
      have c1 := hL.cell p hp16
      rw [hx] at c1
      have HX := Lib.hid (show scB b k = x by unfold scB; rw [hp]; exact hx)
      clear hp hx
      by_cases hx0 : x = 0
      · have HN := Lib.hid (rTo_zero (f := scB b) (n := k) (HX.out.trans hx0))
        subst hx0
        have e0 : ((0 : Int) == 0) = true := rfl
        go_wp2_with fail
        go_roundw
        case rel => exact ⟨k + 1, m + 1, pre, by omega, by go_num, by go_num, by omega, Lib.hid (by rw [HN.out, HP.out]), hlen, HO.out, hoq, hL, hqq, hb⟩
        case measure => simp [intOf]; omega
      · have e0 : (x == 0) = false := by simp [hx0]
        have HN := Lib.hid (rTo_level (f := scB b) (n := k) (by rw [HX.out]; exact hx0))
        have hz := hb.size
        clear hx0
        go_wp2_with (at_builtin; refine appendRun (w.heap.size + 1) (m : Int) x wr.heap.size (OwnR.alloc HO.out _) (RunB.new' rfl) (by omega) (by simp; omega) rfl rfl rfl rfl ?_; intro v' w2 hO2 hgrow hat; have HO2 := Lib.hid hO2; clear hO2)
        have hne : ∀ g, u3.ownBlock = some g → w.heap.size + 1 ≤ g := fun g e => (OwnR.lt HO.out g e).1
        have hL2 : Blk w2 w.heap.size 16 29 b := (hgrow.block _ (by simp; omega) (fun e => by have := hne _ e.symm; omega)).trans (hL.alloc _)
        have hql : q < wr.heap.size := by
          rcases Nat.lt_or_ge q wr.heap.size with h | h
          · exact h
          · rw [Array.getElem?_eq_none (by omega)] at hqq
            exact absurd ho2 (by have := (Array.getElem?_eq_none_iff.1 hqq.symm); omega)
        have hq2 : w2.heap[q]? = w1.heap[q]? := (hgrow.block _ (by simp; omega) (fun e => hoq e.symm)).trans ((Below.heap_alloc _ _ q hql).trans hqq)
        have hb2 : Below w.heap.size w w2 := (hb.alloc hb.size _).grown hgrow (by simp; omega) (fun g e => by have := hne _ e; omega)
        have hoq2 : v'.ownBlock ≠ some q := by
          rcases hat with e | e
          · rw [e]; exact hoq
          · rw [e]; simp; omega
        go_roundw
        case rel => exact ⟨k + 1, 0, _, by omega, by go_num, rfl, by omega, Lib.hid (by rw [HN.out, HP.out, HX.out]), by simp; omega, HO2.out, hoq2, hL2, hq2, hb2⟩
        case measure => simp [intOf]; omega
    · obtain rfl : k = 16 := by omega
      go_wp2_with fail
      go_ret
      exact ⟨_, rfl, by unfold runsB; rw [HP.out]; exact OwnR.base HO.out (by omega), hb⟩
end Go.Proofs.Ytogmlcmajecpgaa
