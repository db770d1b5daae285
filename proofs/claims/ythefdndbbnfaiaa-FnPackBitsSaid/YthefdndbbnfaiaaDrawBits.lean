/- The drawing of bits and bytes. -/
import Derived.Test.YthefdndbbnfaiaaPack
import Derived.Test.YthefdndbbnfaiaaReader
namespace Go.Proofs.Ythefdndbbnfaiaa
open Go.RowKit

theorem But.belowTo {R C : Nat} {a w w' : World} (h : But R a w) (hb : Below C w w') (hC : a.heap.size ≤ C) : But R a w' :=
  ⟨hb.os.trans h.os, hb.tape.trans h.tape, hb.output.trans h.output, Nat.le_trans h.size hb.size, fun k hk hr => (hb.block k (by omega)).trans (h.block k hk hr)⟩
theorem OwnK.only {k : IntKind} {e : TypeId} {base R : Nat} {w w' : World} {v : Value} {n : Nat} {f : Nat → Int} (h : OwnK k e base w v n f) (ho : Only R w w') (hR : R < base) : OwnK k e base w' v n f :=
  h.kept fun g hg => ho.block g (by have := (h.lt g hg).1; omega)
set_option maxHeartbeats 1000000 in
theorem l20Bits_any (B R m : Nat) (n : Int) (w : World) (h : Rd B w R m) (hm : m ≤ 900000) (hn0 : 1 ≤ n) (hn : n ≤ 1000000) :
    Calls Try.prog 34 #[.pointer (some ⟨R, 0, none⟩), .int .i64 n] w fun e w' => ∃ v k f, e = .returned v ∧ k ≤ 61 ∧ Sn .i64 w.heap.size w'.heap.size w' v k f ∧ But R w w' := by
  have hRlt := h.lt
  have HR := Lib.hid h; clear h
  go_enter Try.func34, Try.ntmps34
  go_wp2_with fail
  refine (pick_any B R m 60 _ (HR.out.alloc _) (by omega) (by omega)).mono ?_; rintro e w1 ⟨kd, rfl, k0, k1, hr1, ho1⟩
  obtain ⟨K, rfl⟩ := Int.eq_ofNat_of_zero_le k0
  have hX : OwnK .i64 3 w.heap.size w1 (.slice (some ⟨w.heap.size, 0, none⟩) 0 0) 0 (fun _ => 0) := (OwnK.made (Nat.le_refl _) _).only ho1 hRlt
  have hb1 : But R w w1 := ((But.refl _ _).alloc _).trans ho1.but
  have HR1 := Lib.hid hr1
  clear HR hr1 ho1
  go_wp2_with fail
  go_loopw [5, 6] (fun v i wr => ∃ (j : Nat) (f : Nat → Int), j ≤ K ∧ i = .int .i64 j ∧ OwnK .i64 3 w.heap.size wr v (K - j) f ∧ Hid (Rd B wr R (m + 1 + (K - j))) ∧ But R w wr) (fun _ i _ => (intOf i).toNat)
  case atStart => exact ⟨K, _, Nat.le_refl _, rfl, by rw [Nat.sub_self]; exact hX, by rw [Nat.sub_self]; exact HR1, hb1⟩
  case round =>
    clear hX HR1 hb1
    obtain ⟨j, f, hj, rfl, hX, HR, hb⟩ := hrel
    have hz := hb.size
    by_cases hlt : 0 < j
    · have hlt' : (0 : Int) < j := by omega
      go_wp2_with fail
      refine (pick_any B R _ 8 _ HR.out (by omega) (by omega)).mono ?_; rintro e w2 ⟨p, rfl, p0, p1, hr2, ho2⟩
      have hX2 := hX.only ho2 hRlt
      have hb2 := hb.trans ho2.but
      have hz2 := hb2.size
      have HR2 := Lib.hid hr2
      clear hX HR hb hr2 ho2
      go_wp2_with (at_builtin; refine appendInt w.heap.size _ w2.heap.size (hX2.alloc _) (new_cell _ _ _) (by omega) (by simp; omega) rfl rfl rfl rfl ?_; intro v' w3 hX3 hgrow hat)
      have hb3 := grown_below (Below.refl w.heap.size _) hgrow (hX2.alloc _) (Nat.le_refl _) (by simp; omega)
      have hbut := (hb2.alloc _).belowTo hb3 (Nat.le_refl _)
      have hr3 := (HR2.out.alloc _).below hb3 hRlt
      go_roundw
      case rel => exact ⟨j - 1, _, by omega, by go_num, by rw [show K - (j - 1) = K - j + 1 from by omega]; exact hX3, Lib.hid (hr3.mono (by omega)), hbut⟩
      case measure => simp [intOf]; omega
    · obtain rfl : j = 0 := by omega
      go_wp2_with fail
      refine (odd_any B R _ n _ HR.out (by omega) hn hn0).mono ?_; rintro e w2 ⟨o, rfl, hr2, ho2⟩
      have hX2 := hX.only ho2 hRlt
      have hb2 := hb.trans ho2.but
      have hz2 := hb2.size
      have HR2 := Lib.hid hr2
      clear hX HR hb hr2 ho2
      cases o
      · go_wp2_with fail
        go_ret
        exact ⟨_, _, _, rfl, by omega, hX2.sn, hb2⟩
      · go_wp2_with fail
        refine (pick_any B R _ 2 _ (HR2.out.alloc _) (by omega) (by omega)).mono ?_; rintro e w3 ⟨q, rfl, q0, q1, hr3, ho3⟩
        obtain ⟨q, rfl⟩ := Int.eq_ofNat_of_zero_le q0
        have hq : q < 2 := by omega
        have hc := lit_cell [2, -1] ((ho3.block w2.heap.size (by omega)).trans (heap_alloc_new w2 _)) q hq
        have hX3 := (hX2.alloc _).only ho3 hRlt
        have hb3 := (hb2.alloc _).trans ho3.but
        have hz3 := hb3.size
        generalize pickL [2, -1] q = z at *
        clear hX2 HR2 hb2 hr3 ho3
        go_wp2_with (at_builtin; refine appendInt w.heap.size _ w3.heap.size (hX3.alloc _) (new_cell _ _ _) (by omega) (by simp; omega) rfl rfl rfl rfl ?_; intro v' w4 hX4 hgrow hat)
        have hb4 := grown_below (Below.refl w.heap.size _) hgrow (hX3.alloc _) (Nat.le_refl _) (by simp; omega)
        have hbut := (hb3.alloc _).belowTo hb4 (Nat.le_refl _)
        go_ret
        exact ⟨_, _, _, rfl, by omega, hX4.sn, hbut⟩
theorem DrawPackBits_any (v : Value) (n : Nat) (b : Nat → Int) (w : World) (h : SlB w.heap.size w v n b) (hn : n ≤ 1000000000000) :
    Calls Try.prog 25 #[v] w fun e w' => ∃ v k f, e = .returned v ∧ k ≤ 61 ∧ Sn .i64 w.heap.size w'.heap.size w' v k f ∧ Below w.heap.size w w' := by
  have H := Lib.hid h; clear h
  go_enter Try.func25, Try.ntmps25
  go_wp2_with fail
  refine (l20Open_any v n b _ H.out hn).mono ?_; rintro e w1 ⟨rfl, hr1, hb1, hz1⟩
  have HR1 := Lib.hid hr1; have HB1 := Lib.hid hb1; have HZ1 := Lib.hid hz1; clear hr1 hb1 hz1
  go_wp2_with fail
  refine (l20Bits_any _ _ 0 9 _ HR1.out (by omega) (by omega) (by omega)).mono ?_; rintro e w2 ⟨v2, k, f, rfl, hk, hs, hb⟩
  go_wp2_with fail
  go_ret
  have := HZ1.out
  exact ⟨_, _, _, rfl, hk, hs.mono (by omega) (Nat.le_refl _), HB1.out.trans (hb.below (Nat.le_refl _) (by omega))⟩
set_option maxHeartbeats 1000000 in
theorem l20Bytes_any (B R m : Nat) (w : World) (h : Rd B w R m) (hm : m ≤ 900000) :
    Calls Try.prog 30 #[.pointer (some ⟨R, 0, none⟩), .int .i64 9] w fun e w' => ∃ v k f, e = .returned v ∧ k ≤ 10 ∧ (∀ i, i < k → 0 ≤ f i ∧ f i ≤ 255) ∧ Sn .u8 w.heap.size w'.heap.size w' v k f ∧ Rd B w' R (m + 50) ∧ But R w w' := by
  have hRlt := h.lt
  have HR := Lib.hid h; clear h
  go_enter Try.func30, Try.ntmps30
  go_wp2_with fail
  refine (pick_any B R m 10 _ (HR.out.alloc _) (by omega) (by omega)).mono ?_; rintro e w1 ⟨kd, rfl, k0, k1, hr1, ho1⟩
  obtain ⟨K, rfl⟩ := Int.eq_ofNat_of_zero_le k0
  have hX : OwnK .u8 5 w.heap.size w1 (.slice (some ⟨w.heap.size, 0, none⟩) 0 0) 0 (fun _ => 0) := (OwnK.made (Nat.le_refl _) _).only ho1 hRlt
  have hb1 : But R w w1 := ((But.refl _ _).alloc _).trans ho1.but
  have HR1 := Lib.hid hr1
  clear HR hr1 ho1
  go_wp2_with fail
  go_loopw [5, 6] (fun v i wr => ∃ (j : Nat) (f : Nat → Int), j ≤ K ∧ i = .int .i64 j ∧ Hid (∀ i, i < K - j → 0 ≤ f i ∧ f i ≤ 255) ∧ OwnK .u8 5 w.heap.size wr v (K - j) f ∧ Hid (Rd B wr R (m + 1 + 3 * (K - j))) ∧ But R w wr) (fun _ i _ => (intOf i).toNat)
  case atStart => exact ⟨K, _, Nat.le_refl _, rfl, fun i hi => by omega, by rw [Nat.sub_self]; exact hX, by rw [Nat.sub_self]; exact HR1, hb1⟩
  case round =>
    clear hX HR1 hb1
    obtain ⟨j, f, hj, rfl, HF, hX, HR, hb⟩ := hrel
    have hz := hb.size
    by_cases hlt : 0 < j
    · have hlt' : (0 : Int) < j := by omega
      go_wp2_with fail
      refine (pick_any B R _ 256 _ HR.out (by omega) (by omega)).mono ?_; rintro e w2 ⟨p, rfl, p0, p1, hr2, ho2⟩
      have hX2 := hX.only ho2 hRlt
      have hb2 := hb.trans ho2.but
      have HR2 := Lib.hid hr2
      clear hX HR hb hr2 ho2
      go_wp2_with fail
      refine (pick_any B R _ 256 _ HR2.out (by omega) (by omega)).mono ?_; rintro e w3 ⟨p', rfl, p0', p1', hr3, ho3⟩
      have hX3 := hX2.only ho3 hRlt
      have hb3 := hb2.trans ho3.but
      have hz3 := hb3.size
      have HR3 := Lib.hid hr3
      clear hX2 HR2 hb2 hr3 ho3
      go_wp2_with fail
      refine (pick_any B R _ 4 _ (HR3.out.alloc _) (by omega) (by omega)).mono ?_; rintro e w4 ⟨q, rfl, q0, q1, hr4, ho4⟩
      obtain ⟨q, rfl⟩ := Int.eq_ofNat_of_zero_le q0
      have hq : q < 4 := by omega
      have hc := lit_cell [0, 255, p, p'] ((ho4.block w3.heap.size (by omega)).trans (heap_alloc_new w3 _)) q hq
      have hbd := pickL_bd (l := [0, 255, p, p']) (lo := 0) (hi := 255) (by simp; omega) q hq
      have hX4 := (hX3.alloc _).only ho4 hRlt
      have hb4 := (hb3.alloc _).trans ho4.but
      have hz4 := hb4.size
      have HR4 := Lib.hid hr4
      generalize pickL [0, 255, p, p'] q = z at *
      clear hX3 HR3 hb3 hr4 ho4
      have hu : IntKind.u8.wrap z = z := IntWalk.u8_in _ (by omega)
      go_wp2_with (at_builtin; refine appendByte w.heap.size _ w4.heap.size (hX4.alloc _) (new_cell _ _ _) (by omega) (by simp; omega) rfl rfl rfl rfl ?_; intro v' w5 hX5 hgrow hat)
      have hb5 := grown_below (Below.refl w.heap.size _) hgrow (hX4.alloc _) (Nat.le_refl _) (by simp; omega)
      have hbut := (hb4.alloc _).belowTo hb5 (Nat.le_refl _)
      have hr5 := (HR4.out.alloc _).below hb5 hRlt
      go_roundw
      case rel => exact ⟨j - 1, fun i => if i = K - j then z else f i, by omega, by go_num, by
          rw [show K - (j - 1) = K - j + 1 from by omega]
          exact Lib.hid (fun i hi => by
            by_cases e : i = K - j
            · simp only [e, if_true]; omega
            · simp only [e, if_false]; exact HF.out i (by omega)), by rw [show K - (j - 1) = K - j + 1 from by omega]; exact hX5, Lib.hid (hr5.mono (by omega)), hbut⟩
      case measure => simp [intOf]; omega
    · obtain rfl : j = 0 := by omega
      go_wp2_with fail
      go_ret
      exact ⟨_, _, _, rfl, by omega, HF.out, hX.sn, HR.out.mono (by omega), hb⟩
theorem DrawUnpackBits_any (v : Value) (n : Nat) (b : Nat → Int) (w : World) (h : SlB w.heap.size w v n b) (hn : n ≤ 1000000000000) :
    Calls Try.prog 20 #[v] w fun e w' => ∃ v k f z, e = .returned (.tuple #[v, .int .i64 z]) ∧ k ≤ 10 ∧ (∀ i, i < k → 0 ≤ f i ∧ f i ≤ 255) ∧ Sn .u8 w.heap.size w'.heap.size w' v k f ∧ -1 ≤ z ∧ z ≤ 100 ∧ Below w.heap.size w w' := by
  have H := Lib.hid h; clear h
  go_enter Try.func20, Try.ntmps20
  go_wp2_with fail
  refine (l20Open_any v n b _ H.out hn).mono ?_; rintro e w1 ⟨rfl, hr1, hb1, hz1⟩
  have HR1 := Lib.hid hr1; have HB1 := Lib.hid hb1; have HZ1 := Lib.hid hz1; clear hr1 hb1 hz1
  go_wp2_with fail
  refine (l20Bytes_any _ _ 0 _ HR1.out (by omega)).mono ?_; rintro e w2 ⟨v2, k, f, rfl, hk, hf, hs, hr2, hb⟩
  have HF := Lib.hid hf; have HS := Lib.hid hs; have HR2 := Lib.hid hr2; have HB2 := Lib.hid (HB1.out.trans (hb.below (Nat.le_refl _) (by have := HZ1.out; omega)))
  have hz2 := hb.size
  obtain ⟨a2, cap2, rfl, _, _⟩ := hs
  clear hf hr2 hb
  go_wp2_with fail
  refine (pick_any _ _ _ _ _ HR2.out (by omega) (by omega)).mono ?_; rintro e w3 ⟨z, rfl, z0, z1, hr3, ho3⟩
  have HS3 := Lib.hid (HS.out.kept (w' := w3) (fun g h1 h2 => ho3.block g (by have := HZ1.out; omega)))
  have HB3 := Lib.hid (HB2.out.trans (ho3.below (Nat.le_refl _)))
  have hz3 := ho3.size
  clear hr3 ho3 HS HB2
  go_wp2_with fail
  go_ret2
  have := HZ1.out
  exact ⟨_, _, _, _, rfl, hk, HF.out, by rw [hz3]; exact HS3.out.mono (by omega) (Nat.le_refl _), by omega, by omega, HB3.out⟩
end Go.Proofs.Ythefdndbbnfaiaa
