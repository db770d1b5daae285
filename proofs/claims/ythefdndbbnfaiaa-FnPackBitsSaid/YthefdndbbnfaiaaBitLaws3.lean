/- The walk of FnPackBits. -/
import Derived.Test.YthefdndbbnfaiaaBitLaws2
namespace Go.Proofs.Ythefdndbbnfaiaa
open Go.RowKit
set_option maxRecDepth 100000 in
set_option maxHeartbeats 4000000 in
theorem FnPackBits_walk (a : Option Addr) (len cap : Nat) (zs : List Int) (w : World) (h : IsRow .u8 w a len cap zs) :
    Calls Try.prog 7 #[.slice a len cap] w fun e w' => e = .returned (.bool true) ∧ Below w.heap.size w w' := by
  obtain ⟨hs, hm⟩ := h.bytes
  unfold maxLen at hm
  clear h
  by_cases hl : 1048576 < len
  · clear hs
    go_enter Try.func7, Try.ntmps7
    go_wp2
    go_ret
    exact ⟨rfl, Below.refl _ _⟩
  · have HS := Lib.hid hs; clear hs
    have HB := Lib.hid (Below.refl w.heap.size w)
    go_enter Try.func7, Try.ntmps7
    go_wp2_with fail
    refine (DrawPackBits_any _ len _ _ HS.out (by omega)).mono ?_; rintro e w1 ⟨v, k, f, rfl, hk, hv, hw1⟩
    have zw1 : w.heap.size ≤ w1.heap.size := hw1.size
    replace HB := Lib.hid (HB.out.trans (hw1.mono (by omega)))
    clear hw1
    have SB := Lib.hid hv; obtain ⟨a1, cap1, rfl, hcap1, hc1⟩ := hv; clear hc1
    obtain ⟨pn, hpn⟩ : ∃ pn, pkN f k = pn := ⟨_, rfl⟩
    have hpn1 : pn ≤ 100 := by rw [← hpn]; unfold pkN; split <;> omega
    have HP := Lib.hid hpn; clear hpn
    go_wp2_with fail
    refine (iPackBits_any _ k f _ (SB.out.sr.mono (by omega)) (by omega)).mono ?_; rintro e w2 ⟨v1, rfl, r1, hw2⟩
    have zw2 : w1.heap.size ≤ w2.heap.size := hw2.size
    replace HB := Lib.hid (HB.out.trans (hw2.mono (by omega)))
    replace SB := Lib.hid (SB.out.below hw2 (by omega))
    clear hw2
    rw [HP.out] at r1
    have R1 := Lib.hid r1; obtain ⟨a2, cap2, rfl, hcap2, hc2⟩ := r1; clear hc2
    have R10 := R1
    go_wp2_with fail
    refine wp_region_held_drew (S := fun w' => Below w2.heap.size w2 w') (by kernel_rfl) (Below.refl _ _).drew (fun hw3 => ?_)
    generalize w2.drew = w3 at hw3 ⊢
    have zw3 : w2.heap.size ≤ w3.heap.size := hw3.size
    replace HB := Lib.hid (HB.out.trans (hw3.mono (by omega)))
    replace SB := Lib.hid (SB.out.below hw3 (by omega))
    replace R1 := Lib.hid (R1.out.below hw3 (by omega))
    refine wpAnyH_take (i := 0) (v := .slice a2 pn cap2) rfl (by kernel_rfl) (by kernel_rfl) (by kernel_rfl) (fun _ _ _ h => h) (Or.inl ⟨by rfl, fun w' _ => by go_simp⟩) hw3 ?_
    refine wpAnyH_take (i := 1) (v := .string (strB pn (pkB f k))) rfl (by kernel_rfl) (by kernel_rfl) (by kernel_rfl) (fun _ _ _ h => h) (yieldsStr (hi := w2.heap.size) (fun _ h => (R10.out.below h (by omega)).sr.mono (by omega)) (by rfl) rfl rfl) hw3 ?_
    refine wpAnyH_take (i := 2) (v := .slice a1 k cap1) rfl (by kernel_rfl) (by kernel_rfl) (by kernel_rfl) (fun _ _ _ h => h) (Or.inl ⟨by rfl, fun w' _ => by go_simp⟩) hw3 ?_
    refine wpAnyH_ready (rs := [3]) (by kernel_rfl) (by simp) ?_
    refine AllReadyH.cons rfl (fun K hK => ?_) AllReadyH.nil
    go_simp
    refine (sPackBits_any _ k f _ (SB.out.sr.mono (by omega)) (by omega)).mono ?_; rintro e w4 ⟨v2, rfl, r2, hw4⟩
    have zw4 : w3.heap.size ≤ w4.heap.size := hw4.size
    replace HB := Lib.hid (HB.out.trans (hw4.mono (by omega)))
    replace SB := Lib.hid (SB.out.below hw4 (by omega))
    replace R1 := Lib.hid (R1.out.below hw4 (by omega))
    refine hK.out _ _ (hw3.trans (hw4.mono (by omega))) (fun Hw4 => ?_)
    clear hK K hw4 hw3
    rw [HP.out] at r2
    have hconv := run_str (r2.sr)
    refine wpAnyH_ready (rs := [4]) (by kernel_rfl) (by simp) ?_
    refine AllReadyH.cons rfl (fun K hK => ?_) AllReadyH.nil
    go_simp
    refine hK.out _ _ Hw4 (fun _ => ?_)
    clear hK K
    refine wpAnyH_ready (rs := [5]) (by kernel_rfl) (by simp) ?_
    refine AllReadyH.cons rfl (fun K hK => ?_) AllReadyH.nil
    go_simp
    refine hK.out _ _ Hw4 (fun _ => ?_)
    clear hK K
    refine wpAnyH_done (by kernel_rfl) ?_ _
    clear Hw4
    clear hconv r2 R10
    have hbe : (BEq.beq (strB pn (pkB f k)).toList (strB pn (pkB f k)).toList) = true := by simp
    go_wp2_with fail
    go_loopw [5] (fun i wr => wr = w4 ∧ ∃ j : Nat, j ≤ k ∧ i = .int .i64 j ∧ Hid (∀ i, i < j → 0 ≤ f i ∧ f i ≤ 1)) (fun i _ => k - (intOf i).toNat)
    case atStart => exact ⟨rfl, 0, by omega, rfl, fun i hi => by omega⟩
    case round =>
      obtain ⟨rfl, j, hj, rfl, HJ⟩ := hrel
      by_cases hlt : j < k
      · have hlt' : (j : Int) < k := by omega
        have hj0 : (0 : Int) ≤ j := by omega
        obtain ⟨a1', cap1', ea, _, hc⟩ := SB.out
        obtain ⟨rfl, rfl⟩ : a1 = a1' ∧ cap1 = cap1' := by injection ea with e1 _ e2; exact ⟨e1, e2⟩
        obtain ⟨g, off, rfl, hg1, hg2, hcell⟩ := hc (by omega)
        have c1 := (hcell j hlt).1
        clear hcell hc ea
        by_cases e0 : f j = 0
        · have q0 : (f j != 0) = false := by simp [e0]
          have hf : Hid (∀ i, i < j + 1 → 0 ≤ f i ∧ f i ≤ 1) := fun i hi => by
            by_cases e : i = j
            · subst e; omega
            · exact HJ.out i (by omega)
          clear e0
          go_wp2_with fail
          go_roundw
          case rel => exact ⟨trivial, j + 1, by omega, by go_num, hf⟩
          case measure => simp [intOf]; omega
        · have q0 : (f j != 0) = true := by simp [e0]
          by_cases e1 : f j = 1
          · have q1 : (f j != 1) = false := by simp [e1]
            have hf : Hid (∀ i, i < j + 1 → 0 ≤ f i ∧ f i ≤ 1) := fun i hi => by
              by_cases e : i = j
              · subst e; omega
              · exact HJ.out i (by omega)
            clear e0 e1
            go_wp2_with fail
            go_roundw
            case rel => exact ⟨trivial, j + 1, by omega, by go_num, hf⟩
            case measure => simp [intOf]; omega
          · have q1 : (f j != 1) = true := by simp [e1]
            have hp0 : pn = 0 := by rw [← HP.out]; unfold pkN; rw [bitsB_false j hlt (by omega)]; rfl
            subst hp0
            clear e0 e1
            go_wp2_with fail
            refine (alive_any _).mono ?_; rintro e wz ⟨rfl, hwz⟩
            go_wp2_with fail
            go_ret
            exact ⟨rfl, HB.out.trans (hwz.mono HB.out.size)⟩
      · obtain rfl : j = k := by omega
        have hbt : bitsB f j = true := bitsB_true (by omega) HJ.out
        have hp0 : pn = (j + 7) / 8 := by rw [← HP.out]; unfold pkN; rw [hbt]; rfl
        have HBD := Lib.hid (fun i (_ : i < pn) => pk_bd HJ.out i)
        have hu : unpN (8 * (pn : Int)) pn = 8 * pn := by unfold unpN; rw [if_pos (by omega)]; omega
        have hu2 : unpN (j : Int) pn = j := by unfold unpN; rw [if_pos (by omega)]; omega
        have HU := Lib.hid hu; have HU2 := Lib.hid hu2
        have HUP := Lib.hid (fun i => unp_pk f j i HJ.out)
        have hpa : j ≤ 8 * pn := by omega
        have hpb : 8 * pn ≤ j + 7 := by omega
        have HP0 := Lib.hid hp0
        clear hu hu2 hbt hp0
        go_wp2_with fail
        refine (iUnpackBits_any _ pn (pkB f j) _ _ (R1.out.sr.mono (by omega)) HBD.out (by omega)).mono ?_; rintro e w5 ⟨v3, rfl, r3, hw5⟩
        have zw5 : wr.heap.size ≤ w5.heap.size := hw5.size
        replace HB := Lib.hid (HB.out.trans (hw5.mono (by omega)))
        replace SB := Lib.hid (SB.out.below hw5 (by omega))
        replace R1 := Lib.hid (R1.out.below hw5 (by omega))
        clear hw5
        rw [HU.out] at r3
        have R3 := Lib.hid r3; obtain ⟨a3, cap3, rfl, hcap3, hc3⟩ := r3; clear hc3
        go_wp2_with fail
        go_loopw [7] (fun i wr => wr = w5 ∧ ∃ i' : Nat, j ≤ i' ∧ i' ≤ 8 * pn ∧ i = .int .i64 i') (fun i _ => 8 * pn - (intOf i).toNat)
        case atStart => exact ⟨rfl, j, Nat.le_refl _, by omega, rfl⟩
        case round =>
          obtain ⟨rfl, t, ht1, ht2, rfl⟩ := hrel
          by_cases hlt : t < 8 * pn
          · have hlt' : (t : Int) < ((8 * pn : Nat) : Int) := by omega
            have hj0 : (0 : Int) ≤ t := by omega
            obtain ⟨a3', cap3', ea, _, hc⟩ := R3.out
            obtain ⟨rfl, rfl⟩ : a3 = a3' ∧ cap3 = cap3' := by injection ea with e1 _ e2; exact ⟨e1, e2⟩
            obtain ⟨g, off, rfl, hg1, hg2, hcell⟩ := hc (by omega)
            have c1 := (hcell t hlt).1
            rw [HUP.out t, if_neg (by omega)] at c1
            clear hcell hc ea
            go_wp2_with fail
            go_roundw
            case rel => exact ⟨trivial, t + 1, by omega, by omega, by go_num⟩
            case measure => simp [intOf]; omega
          · obtain rfl : t = 8 * pn := by omega
            go_wp2_with fail
            refine (iUnpackBits_any _ pn (pkB f j) _ _ (R1.out.sr.mono (by omega)) HBD.out (by omega)).mono ?_; rintro e w6 ⟨v4, rfl, r4, hw6⟩
            have zw6 : wr.heap.size ≤ w6.heap.size := hw6.size
            replace HB := Lib.hid (HB.out.trans (hw6.mono (by omega)))
            replace SB := Lib.hid (SB.out.below hw6 (by omega))
            replace R1 := Lib.hid (R1.out.below hw6 (by omega))
            replace R3 := Lib.hid (R3.out.below hw6 (by omega))
            clear hw6
            rw [HU2.out] at r4
            have R4 := Lib.hid r4; clear r4
            go_wp2_with fail
            refine (sameInts_yes _ _ j _ _ _ (R4.out.sr.mono (by omega)) (SB.out.sr.mono (by omega)) (fun i hi => by rw [HUP.out i, if_pos hi]) (by omega)).mono ?_; rintro e w7 ⟨rfl, hw7⟩
            have zw7 : w6.heap.size ≤ w7.heap.size := hw7.size
            replace HB := Lib.hid (HB.out.trans (hw7.mono (by omega)))
            replace SB := Lib.hid (SB.out.below hw7 (by omega))
            replace R1 := Lib.hid (R1.out.below hw7 (by omega))
            replace R3 := Lib.hid (R3.out.below hw7 (by omega))
            replace R4 := Lib.hid (R4.out.below hw7 (by omega))
            clear hw7
            have hfin : ((pn : Int) == ((j : Int) + 7) / 8) = true := by rw [beq_iff_eq]; have := HP0.out; omega
            go_wp2_with fail
            go_ret
            exact ⟨rfl, HB.out⟩
end Go.Proofs.Ythefdndbbnfaiaa
