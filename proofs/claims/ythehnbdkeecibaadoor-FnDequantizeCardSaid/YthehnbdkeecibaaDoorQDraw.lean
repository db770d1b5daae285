/- The drawing of a quantization index and of a coefficient. -/
import Derived.Test.YthehnbdkeecibaaDoorDraw
import Derived.Deep.RegionHeld3
namespace Go.Proofs.YthehnbdkeecibaaDoor
open Go.RowKit

/-- What l20Q leaves: an index in -1..16. -/
def QDrawn (B R m : Nat) (w : World) (e : Ending) (w' : World) : Prop :=
  ∃ q : Int, e = .returned (.int .i64 q) ∧ -1 ≤ q ∧ q ≤ 16 ∧ Rd B w' R (m + 4) ∧ But R w w'
theorem l20Q_any (B R m : Nat) (n : Int) (w : World) (h : Rd B w R m) (hm : m ≤ 900000) (hn : n ≤ 1000000) (hn0 : 1 ≤ n) :
    Calls Tryd.prog 27 #[.pointer (some ⟨R, 0, none⟩), .int .i64 n] w (QDrawn B R m w) := by
  have H := Lib.hid h; clear h
  go_enter Tryd.func27, Tryd.ntmps27
  go_wp2_with fail
  refine (odd_any B R m n _ H.out (by omega) hn hn0).mono ?_; rintro e w1 ⟨t, rfl, hr1, ho1⟩
  have HR1 := Lib.hid hr1; have HO1 := Lib.hid ho1.but; have hl1 := hr1.lt; clear hr1 ho1 H
  cases t with
  | true =>
    go_wp2_with fail
    refine (pick_any B R (m + 1) 2 _ (HR1.out.alloc _) (by omega) (by omega)).mono ?_; rintro e w2 ⟨k, rfl, p1, q1, hr2, ho2⟩
    obtain ⟨j, rfl⟩ := Int.eq_ofNat_of_zero_le p1
    have hj : j < 2 := by omega
    have hc := lit_cell [-1, 16] ((ho2.block w1.heap.size (by omega)).trans (heap_alloc_new w1 _)) j hj
    have hbd := pickL_bd (l := [-1, 16]) (lo := -1) (hi := 16) (by simp) j hj
    have HF := Lib.hid (show Rd B w2 R (m + 4) ∧ But R w w2 from ⟨hr2.mono (by omega), (HO1.out.alloc _).trans ho2.but⟩)
    generalize pickL [-1, 16] j = z at *
    clear hr2 ho2
    go_wp2_with fail
    go_ret
    exact ⟨z, rfl, hbd.1, hbd.2, HF.out⟩
  | false =>
    go_wp2_with fail
    refine (pick_any B R (m + 1) 16 _ HR1.out (by omega) (by omega)).mono ?_; rintro e w2 ⟨k1, rfl, p1, q1, hr2, ho2⟩
    have HR2 := Lib.hid hr2; have HO2 := Lib.hid (HO1.out.trans ho2.but); clear hr2 ho2
    go_wp2_with fail
    refine (pick_any B R (m + 2) 5 _ HR2.out (by omega) (by omega)).mono ?_; rintro e w3 ⟨k2, rfl, p2, q2, hr3, ho3⟩
    have HR3 := Lib.hid hr3; have HO3 := Lib.hid (HO2.out.trans ho3.but); have hl3 := hr3.lt; clear hr3 ho3
    go_wp2_with fail
    refine (pick_any B R (m + 3) 2 _ (HR3.out.alloc _) (by omega) (by omega)).mono ?_; rintro e w4 ⟨k, rfl, p3, q3, hr4, ho4⟩
    obtain ⟨j, rfl⟩ := Int.eq_ofNat_of_zero_le p3
    have hj : j < 2 := by omega
    have hc := lit_cell [k1, k2] ((ho4.block w3.heap.size (by omega)).trans (heap_alloc_new w3 _)) j hj
    have hbd := pickL_bd (l := [k1, k2]) (lo := -1) (hi := 16) (by simp; omega) j hj
    have HF := Lib.hid (show Rd B w4 R (m + 4) ∧ But R w w4 from ⟨hr4.mono (by omega), (HO3.out.alloc _).trans ho4.but⟩)
    generalize pickL [k1, k2] j = z at *
    clear hr4 ho4
    go_wp2_with fail
    go_ret
    exact ⟨z, rfl, hbd.1, hbd.2, HF.out⟩

theorem DrawQuantStep_any (v : Value) (n : Nat) (b : Nat → Int) (w : World) (h : SlB w.heap.size w v n b) (hn : n ≤ 1000000000000) :
    Calls Tryd.prog 15 #[v] w (Drawn (-1) 16 w) := by
  have H := Lib.hid h; clear h
  go_enter Tryd.func15, Tryd.ntmps15
  go_wp2_with fail
  refine (l20Open_any v n b _ H.out hn).mono ?_; rintro e w1 ⟨rfl, hr1, hb1, hz1⟩
  have HR1 := Lib.hid hr1; have HB1 := Lib.hid hb1; have HZ1 := Lib.hid hz1; clear hr1 hb1 hz1
  go_wp2_with fail
  refine (l20Q_any _ _ 0 5 _ HR1.out (by omega) (by omega) (by omega)).mono ?_; rintro e w2 ⟨q, rfl, q0, q1, _, ho2⟩
  have HB2 := Lib.hid (HB1.out.trans (ho2.below (Nat.le_refl _) (by have := HZ1.out; omega))); clear ho2
  go_wp2_with fail
  go_ret
  exact ⟨q, rfl, q0, q1, HB2.out⟩

/-- A coefficient and an index. -/
def CQDrawn (w : World) (e : Ending) (w' : World) : Prop := ∃ c q : Int, e = .returned (.tuple #[.int .i64 c, .int .i64 q]) ∧ -4082 ≤ c ∧ c ≤ 4082 ∧ -1 ≤ q ∧ q ≤ 16 ∧ Below w.heap.size w w'
def QS (B R m : Nat) (w0 w : World) (e : Ending) (w' : World) : Prop :=
  ∃ q : Int, e = .returned (.int .i64 q) ∧ -1 ≤ q ∧ q ≤ 16 ∧ St B R (m + 4) w0 w' ∧ (∀ b o, R < b → b < w.heap.size → w'.cell? ⟨b, o, none⟩ = w.cell? ⟨b, o, none⟩) ∧ w.heap.size ≤ w'.heap.size ∧ R < w'.heap.size
theorem l20Q_st (B R m : Nat) (n : Int) (w0 w : World) (h : St B R m w0 w) (hm : m ≤ 900000) (hn : n ≤ 1000000) (hn0 : 1 ≤ n) :
    Calls Tryd.prog 27 #[.pointer (some ⟨R, 0, none⟩), .int .i64 n] w (QS B R m w0 w) :=
  (l20Q_any B R m n w h.1 hm hn hn0).mono fun e w' ⟨q, he, h0, h1, hr, ho⟩ =>
    ⟨q, he, h0, h1, ⟨hr, h.2.trans (ho.below h.1.le (by have := h.1.le; have := h.1.lt; omega))⟩, fun b o hb hs => World.cell?_of_block (w := w) (ho.block b hs (by omega)), ho.size, hr.lt⟩
set_option maxRecDepth 100000 in
set_option maxHeartbeats 8000000 in
theorem DrawQuantize_any (v : Value) (n : Nat) (b : Nat → Int) (w : World) (h : SlB w.heap.size w v n b) (hn : n ≤ 1000000000000) :
    Calls Tryd.prog 19 #[v] w (CQDrawn w) := by
  have H := Lib.hid h; clear h
  go_enter Tryd.func19, Tryd.ntmps19
  go_wp2_with fail
  refine (l20Open_any v n b _ H.out hn).mono ?_; rintro e w1 ⟨rfl, hr1, hb1, hz1⟩
  have S1 := Lib.hid (show St w.heap.size w.heap.size 0 w w1.drew from (show St w.heap.size w.heap.size 0 w w1 from ⟨hr1, hb1⟩).drew)
  clear hr1 hb1 hz1 H
  go_wp2_with fail
  refine wp_region_held_drew (S := fun _ => True) (by kernel_rfl) trivial (fun hH => ?_)
  refine wpAnyH_take (i := 0) (v := .pointer (some ⟨w.heap.size, 0, none⟩)) rfl (by kernel_rfl) (by kernel_rfl) (by kernel_rfl) (fun _ _ _ h => h) (Or.inl ⟨by rfl, fun w' _ => by go_simp <;> first | exact IntWalk.i64_in _ (by omega) | exact Int.tmod_eq_emod_of_nonneg (by omega)⟩) hH ?_
  refine wpAnyH_take (i := 3) (v := .pointer (some ⟨w.heap.size, 0, none⟩)) rfl (by kernel_rfl) (by kernel_rfl) (by kernel_rfl) (fun _ _ _ h => h) (Or.inl ⟨by rfl, fun w' _ => by go_simp <;> first | exact IntWalk.i64_in _ (by omega) | exact Int.tmod_eq_emod_of_nonneg (by omega)⟩) hH ?_
  refine wpAnyH_take (i := 6) (v := .pointer (some ⟨w.heap.size, 0, none⟩)) rfl (by kernel_rfl) (by kernel_rfl) (by kernel_rfl) (fun _ _ _ h => h) (Or.inl ⟨by rfl, fun w' _ => by go_simp <;> first | exact IntWalk.i64_in _ (by omega) | exact Int.tmod_eq_emod_of_nonneg (by omega)⟩) hH ?_
  refine wpAnyH_take (i := 12) (v := .pointer (some ⟨w.heap.size, 0, none⟩)) rfl (by kernel_rfl) (by kernel_rfl) (by kernel_rfl) (fun _ _ _ h => h) (Or.inl ⟨by rfl, fun w' _ => by go_simp <;> first | exact IntWalk.i64_in _ (by omega) | exact Int.tmod_eq_emod_of_nonneg (by omega)⟩) hH ?_
  refine wpAnyH_take (i := 16) (v := .pointer (some ⟨w.heap.size, 0, none⟩)) rfl (by kernel_rfl) (by kernel_rfl) (by kernel_rfl) (fun _ _ _ h => h) (Or.inl ⟨by rfl, fun w' _ => by go_simp <;> first | exact IntWalk.i64_in _ (by omega) | exact Int.tmod_eq_emod_of_nonneg (by omega)⟩) hH ?_
  refine wpAnyH_ready (rs := [1]) (by kernel_rfl) (by simp) ?_
  refine AllReadyH.cons rfl (fun K hK => ?_) AllReadyH.nil
  go_simp
  refine (pick_st _ _ 0 60 w _ S1.out (by omega) (by omega) (by omega)).mono ?_; rintro e w2 ⟨k1, rfl, pk1, nk1, hS2, cS2, zS2, lS2⟩
  refine hK.out _ _ trivial (fun _ => ?_)
  clear hK K
  have S2 := Lib.hid hS2; have CS2 := Lib.hid cS2; clear hS2 cS2
  refine wpAnyH_take (i := 2) (v := .int .i64 (k1 - 30)) rfl (by kernel_rfl) (by kernel_rfl) (by kernel_rfl) (fun _ _ _ h => h) (Or.inl ⟨by rfl, fun w' _ => by go_simp <;> first | exact IntWalk.i64_in _ (by omega) | exact Int.tmod_eq_emod_of_nonneg (by omega)⟩) hH ?_
  refine wpAnyH_ready (rs := [4]) (by kernel_rfl) (by simp) ?_
  refine AllReadyH.cons rfl (fun K hK => ?_) AllReadyH.nil
  go_simp
  refine (pick_st _ _ 1 256 w _ S2.out (by omega) (by omega) (by omega)).mono ?_; rintro e w3 ⟨k2, rfl, pk2, nk2, hS3, cS3, zS3, lS3⟩
  refine hK.out _ _ trivial (fun _ => ?_)
  clear hK K
  have S3 := Lib.hid hS3; have CS3 := Lib.hid cS3; clear hS3 cS3
  refine wpAnyH_take (i := 5) (v := .int .i64 (k2 * 256)) rfl (by kernel_rfl) (by kernel_rfl) (by kernel_rfl) (fun _ _ _ h => h) (Or.inl ⟨by rfl, fun w' _ => by go_simp <;> first | exact IntWalk.i64_in _ (by omega) | exact Int.tmod_eq_emod_of_nonneg (by omega)⟩) hH ?_
  refine wpAnyH_ready (rs := [7]) (by kernel_rfl) (by simp) ?_
  refine AllReadyH.cons rfl (fun K hK => ?_) AllReadyH.nil
  go_simp
  refine (pick_st _ _ 2 256 w _ S3.out (by omega) (by omega) (by omega)).mono ?_; rintro e w4 ⟨k3, rfl, pk3, nk3, hS4, cS4, zS4, lS4⟩
  refine hK.out _ _ trivial (fun _ => ?_)
  clear hK K
  have S4 := Lib.hid hS4; have CS4 := Lib.hid cS4; clear hS4 cS4
  refine wpAnyH_take (i := 8) (v := .int .i64 (k2 * 256 + k3)) rfl (by kernel_rfl) (by kernel_rfl) (by kernel_rfl) (fun _ _ _ h => h) (Or.inl ⟨by rfl, fun w' _ => by go_simp <;> first | exact IntWalk.i64_in _ (by omega) | exact Int.tmod_eq_emod_of_nonneg (by omega)⟩) hH ?_
  refine wpAnyH_take (i := 9) (v := .int .i64 ((k2 * 256 + k3) % 8165)) rfl (by kernel_rfl) (by kernel_rfl) (by kernel_rfl) (fun _ _ _ h => h) (Or.inl ⟨by rfl, fun w' _ => by go_simp <;> first | exact IntWalk.i64_in _ (by omega) | exact Int.tmod_eq_emod_of_nonneg (by omega)⟩) hH ?_
  refine wpAnyH_take (i := 10) (v := .int .i64 ((k2 * 256 + k3) % 8165 - 4082)) rfl (by kernel_rfl) (by kernel_rfl) (by kernel_rfl) (fun _ _ _ h => h) (Or.inl ⟨by rfl, fun w' _ => by go_simp <;> first | exact IntWalk.i64_in _ (by omega) | exact Int.tmod_eq_emod_of_nonneg (by omega)⟩) hH ?_
  have HL := Lib.hid (show ∀ j, j < 2 → -4082 ≤ pickL [(k1 - 30), ((k2 * 256 + k3) % 8165 - 4082)] j ∧ pickL [(k1 - 30), ((k2 * 256 + k3) % 8165 - 4082)] j ≤ 4082 from fun j hj => pickL_bd (l := [(k1 - 30), ((k2 * 256 + k3) % 8165 - 4082)]) (by simp; omega) j hj)
  refine wpAnyH_ready (rs := [11, 13]) (by kernel_rfl) (by simp) ?_
  refine AllReadyH.cons rfl (fun K hK => ?_) (AllReadyH.cons rfl (fun K hK => ?_) AllReadyH.nil)
  · go_simp
    refine hK.out _ _ trivial (fun _ => ?_)
    clear hK K
    have S5 := Lib.hid (S4.out.alloc (.cells #[.int .i64 (k1 - 30), .int .i64 ((k2 * 256 + k3) % 8165 - 4082)] 3))
    refine wpAnyH_ready (rs := [13]) (by kernel_rfl) (by simp) ?_
    refine AllReadyH.cons rfl (fun K hK => ?_) AllReadyH.nil
    go_simp
    refine (pick_st _ _ 3 2 w _ S5.out (by omega) (by omega) (by omega)).mono ?_; rintro e w6 ⟨j, rfl, pj, nj, hS6, cS6, zS6, lS6⟩
    refine hK.out _ _ trivial (fun _ => ?_)
    clear hK K
    have S6 := Lib.hid hS6; have CS6 := Lib.hid cS6; clear hS6 cS6
    have hj : j < 2 := by omega
    have HGR := Lib.hid (show w.heap.size < w4.heap.size from S4.out.lt)
    have HGS := Lib.hid (show w4.heap.size < w6.heap.size from Nat.lt_of_lt_of_le (by simp) zS6)
    have hc : w6.cell? ⟨w4.heap.size, j, none⟩ = some (.int .i64 (pickL [(k1 - 30), ((k2 * 256 + k3) % 8165 - 4082)] j)) := (CS6.out w4.heap.size j HGR.out).trans (lit_cell [(k1 - 30), ((k2 * 256 + k3) % 8165 - 4082)] (heap_alloc_new w4 _) j hj)
    have Bz := HL.out j hj
    generalize pickL [(k1 - 30), ((k2 * 256 + k3) % 8165 - 4082)] j = z at *
    refine wpAnyH_take (i := 14) (v := .pointer (some ⟨w4.heap.size, j, none⟩)) rfl (by kernel_rfl) (by kernel_rfl) (by kernel_rfl) (fun _ _ _ h => h) (Or.inl ⟨by rfl, fun w' _ => by go_simp <;> first | exact IntWalk.i64_in _ (by omega) | exact Int.tmod_eq_emod_of_nonneg (by omega)⟩) hH ?_
    refine wpAnyH_ready (rs := [15, 17]) (by kernel_rfl) (by simp) ?_
    refine AllReadyH.cons rfl (fun K hK => ?_) (AllReadyH.cons rfl (fun K hK => ?_) AllReadyH.nil)
    · go_simp
      refine hK.out _ _ trivial (fun _ => ?_)
      clear hK K
      refine wpAnyH_ready (rs := [17]) (by kernel_rfl) (by simp) ?_
      refine AllReadyH.cons rfl (fun K hK => ?_) AllReadyH.nil
      go_simp
      refine (l20Q_st _ _ 4 12 w _ S6.out (by omega) (by omega) (by omega)).mono ?_; rintro e wq ⟨q, rfl, hq0, hq1, hsq, cq, zq, lq⟩
      refine hK.out _ _ trivial (fun _ => ?_)
      clear hK K
      have SQ := Lib.hid hsq; clear hsq cq
      refine wpAnyH_ready (rs := [18]) (by kernel_rfl) (by simp) ?_
      refine AllReadyH.cons rfl (fun K hK => ?_) AllReadyH.nil
      go_simp
      refine hK.out _ _ trivial (fun _ => ?_)
      clear hK K
      refine wpAnyH_ready (rs := [19]) (by kernel_rfl) (by simp) ?_
      refine AllReadyH.cons rfl (fun K hK => ?_) AllReadyH.nil
      go_simp
      refine hK.out _ _ trivial (fun _ => ?_)
      clear hK K
      refine wpAnyH_done (by kernel_rfl) ?_ _
      go_wp2_with fail
      go_ret2
      exact ⟨z, q, rfl, Bz.1, Bz.2, hq0, hq1, SQ.out.2⟩
    · go_simp
      refine (l20Q_st _ _ 4 12 w _ S6.out (by omega) (by omega) (by omega)).mono ?_; rintro e wq ⟨q, rfl, hq0, hq1, hsq, cq, zq, lq⟩
      refine hK.out _ _ trivial (fun _ => ?_)
      clear hK K
      have SQ := Lib.hid hsq; have hc2 := (cq w4.heap.size j HGR.out (by first | exact HGS.out | (simp; have := HGS.out; omega))).trans hc; clear hsq cq hc
      refine wpAnyH_ready (rs := [15]) (by kernel_rfl) (by simp) ?_
      refine AllReadyH.cons rfl (fun K hK => ?_) AllReadyH.nil
      go_simp
      refine hK.out _ _ trivial (fun _ => ?_)
      clear hK K
      refine wpAnyH_ready (rs := [18]) (by kernel_rfl) (by simp) ?_
      refine AllReadyH.cons rfl (fun K hK => ?_) AllReadyH.nil
      go_simp
      refine hK.out _ _ trivial (fun _ => ?_)
      clear hK K
      refine wpAnyH_ready (rs := [19]) (by kernel_rfl) (by simp) ?_
      refine AllReadyH.cons rfl (fun K hK => ?_) AllReadyH.nil
      go_simp
      refine hK.out _ _ trivial (fun _ => ?_)
      clear hK K
      refine wpAnyH_done (by kernel_rfl) ?_ _
      go_wp2_with fail
      go_ret2
      exact ⟨z, q, rfl, Bz.1, Bz.2, hq0, hq1, SQ.out.2⟩
  · go_simp
    refine (pick_st _ _ 3 2 w _ S4.out (by omega) (by omega) (by omega)).mono ?_; rintro e w5 ⟨j, rfl, pj, nj, hS5, cS5, zS5, lS5⟩
    refine hK.out _ _ trivial (fun _ => ?_)
    clear hK K
    have S5 := Lib.hid hS5; clear hS5 cS5
    have hj : j < 2 := by omega
    have Bz := HL.out j hj
    refine wpAnyH_ready (rs := [11, 17]) (by kernel_rfl) (by simp) ?_
    refine AllReadyH.cons rfl (fun K hK => ?_) (AllReadyH.cons rfl (fun K hK => ?_) AllReadyH.nil)
    · go_simp
      refine hK.out _ _ trivial (fun _ => ?_)
      clear hK K
      have S6 := Lib.hid (S5.out.alloc (.cells #[.int .i64 (k1 - 30), .int .i64 ((k2 * 256 + k3) % 8165 - 4082)] 3))
      have HGR := Lib.hid (show w.heap.size < w5.heap.size from S5.out.lt)
      have HGS := Lib.hid (show w5.heap.size < (w5.alloc (.cells #[.int .i64 (k1 - 30), .int .i64 ((k2 * 256 + k3) % 8165 - 4082)] 3)).heap.size by simp)
      have hc : (w5.alloc (.cells #[.int .i64 (k1 - 30), .int .i64 ((k2 * 256 + k3) % 8165 - 4082)] 3)).cell? ⟨w5.heap.size, j, none⟩ = some (.int .i64 (pickL [(k1 - 30), ((k2 * 256 + k3) % 8165 - 4082)] j)) := lit_cell [(k1 - 30), ((k2 * 256 + k3) % 8165 - 4082)] (heap_alloc_new w5 _) j hj
      generalize pickL [(k1 - 30), ((k2 * 256 + k3) % 8165 - 4082)] j = z at *
      generalize w5.alloc (.cells #[.int .i64 (k1 - 30), .int .i64 ((k2 * 256 + k3) % 8165 - 4082)] 3) = w6 at *
      refine wpAnyH_take (i := 14) (v := .pointer (some ⟨w5.heap.size, j, none⟩)) rfl (by kernel_rfl) (by kernel_rfl) (by kernel_rfl) (fun _ _ _ h => h) (Or.inl ⟨by rfl, fun w' _ => by go_simp <;> first | exact IntWalk.i64_in _ (by omega) | exact Int.tmod_eq_emod_of_nonneg (by omega)⟩) hH ?_
      refine wpAnyH_ready (rs := [15, 17]) (by kernel_rfl) (by simp) ?_
      refine AllReadyH.cons rfl (fun K hK => ?_) (AllReadyH.cons rfl (fun K hK => ?_) AllReadyH.nil)
      · go_simp
        refine hK.out _ _ trivial (fun _ => ?_)
        clear hK K
        refine wpAnyH_ready (rs := [17]) (by kernel_rfl) (by simp) ?_
        refine AllReadyH.cons rfl (fun K hK => ?_) AllReadyH.nil
        go_simp
        refine (l20Q_st _ _ 4 12 w _ S6.out (by omega) (by omega) (by omega)).mono ?_; rintro e wq ⟨q, rfl, hq0, hq1, hsq, cq, zq, lq⟩
        refine hK.out _ _ trivial (fun _ => ?_)
        clear hK K
        have SQ := Lib.hid hsq; clear hsq cq
        refine wpAnyH_ready (rs := [18]) (by kernel_rfl) (by simp) ?_
        refine AllReadyH.cons rfl (fun K hK => ?_) AllReadyH.nil
        go_simp
        refine hK.out _ _ trivial (fun _ => ?_)
        clear hK K
        refine wpAnyH_ready (rs := [19]) (by kernel_rfl) (by simp) ?_
        refine AllReadyH.cons rfl (fun K hK => ?_) AllReadyH.nil
        go_simp
        refine hK.out _ _ trivial (fun _ => ?_)
        clear hK K
        refine wpAnyH_done (by kernel_rfl) ?_ _
        go_wp2_with fail
        go_ret2
        exact ⟨z, q, rfl, Bz.1, Bz.2, hq0, hq1, SQ.out.2⟩
      · go_simp
        refine (l20Q_st _ _ 4 12 w _ S6.out (by omega) (by omega) (by omega)).mono ?_; rintro e wq ⟨q, rfl, hq0, hq1, hsq, cq, zq, lq⟩
        refine hK.out _ _ trivial (fun _ => ?_)
        clear hK K
        have SQ := Lib.hid hsq; have hc2 := (cq w5.heap.size j HGR.out (by first | exact HGS.out | (simp; have := HGS.out; omega))).trans hc; clear hsq cq hc
        refine wpAnyH_ready (rs := [15]) (by kernel_rfl) (by simp) ?_
        refine AllReadyH.cons rfl (fun K hK => ?_) AllReadyH.nil
        go_simp
        refine hK.out _ _ trivial (fun _ => ?_)
        clear hK K
        refine wpAnyH_ready (rs := [18]) (by kernel_rfl) (by simp) ?_
        refine AllReadyH.cons rfl (fun K hK => ?_) AllReadyH.nil
        go_simp
        refine hK.out _ _ trivial (fun _ => ?_)
        clear hK K
        refine wpAnyH_ready (rs := [19]) (by kernel_rfl) (by simp) ?_
        refine AllReadyH.cons rfl (fun K hK => ?_) AllReadyH.nil
        go_simp
        refine hK.out _ _ trivial (fun _ => ?_)
        clear hK K
        refine wpAnyH_done (by kernel_rfl) ?_ _
        go_wp2_with fail
        go_ret2
        exact ⟨z, q, rfl, Bz.1, Bz.2, hq0, hq1, SQ.out.2⟩
    · go_simp
      refine (l20Q_st _ _ 4 12 w _ S5.out (by omega) (by omega) (by omega)).mono ?_; rintro e wq ⟨q, rfl, hq0, hq1, hsq, cq, zq, lq⟩
      refine hK.out _ _ trivial (fun _ => ?_)
      clear hK K
      have SQ := Lib.hid (hsq.alloc (.cells #[.int .i64 (k1 - 30), .int .i64 ((k2 * 256 + k3) % 8165 - 4082)] 3)); clear hsq cq
      refine wpAnyH_ready (rs := [11]) (by kernel_rfl) (by simp) ?_
      refine AllReadyH.cons rfl (fun K hK => ?_) AllReadyH.nil
      go_simp
      refine hK.out _ _ trivial (fun _ => ?_)
      clear hK K
      have hc : (wq.alloc (.cells #[.int .i64 (k1 - 30), .int .i64 ((k2 * 256 + k3) % 8165 - 4082)] 3)).cell? ⟨wq.heap.size, j, none⟩ = some (.int .i64 (pickL [(k1 - 30), ((k2 * 256 + k3) % 8165 - 4082)] j)) := lit_cell [(k1 - 30), ((k2 * 256 + k3) % 8165 - 4082)] (heap_alloc_new wq _) j hj
      generalize pickL [(k1 - 30), ((k2 * 256 + k3) % 8165 - 4082)] j = z at *
      generalize wq.alloc (.cells #[.int .i64 (k1 - 30), .int .i64 ((k2 * 256 + k3) % 8165 - 4082)] 3) = w7 at *
      refine wpAnyH_take (i := 14) (v := .pointer (some ⟨wq.heap.size, j, none⟩)) rfl (by kernel_rfl) (by kernel_rfl) (by kernel_rfl) (fun _ _ _ h => h) (Or.inl ⟨by rfl, fun w' _ => by go_simp <;> first | exact IntWalk.i64_in _ (by omega) | exact Int.tmod_eq_emod_of_nonneg (by omega)⟩) hH ?_
      refine wpAnyH_ready (rs := [15]) (by kernel_rfl) (by simp) ?_
      refine AllReadyH.cons rfl (fun K hK => ?_) AllReadyH.nil
      go_simp
      refine hK.out _ _ trivial (fun _ => ?_)
      clear hK K
      refine wpAnyH_ready (rs := [18]) (by kernel_rfl) (by simp) ?_
      refine AllReadyH.cons rfl (fun K hK => ?_) AllReadyH.nil
      go_simp
      refine hK.out _ _ trivial (fun _ => ?_)
      clear hK K
      refine wpAnyH_ready (rs := [19]) (by kernel_rfl) (by simp) ?_
      refine AllReadyH.cons rfl (fun K hK => ?_) AllReadyH.nil
      go_simp
      refine hK.out _ _ trivial (fun _ => ?_)
      clear hK K
      refine wpAnyH_done (by kernel_rfl) ?_ _
      go_wp2_with fail
      go_ret2
      exact ⟨z, q, rfl, Bz.1, Bz.2, hq0, hq1, SQ.out.2⟩
end Go.Proofs.YthehnbdkeecibaaDoor
