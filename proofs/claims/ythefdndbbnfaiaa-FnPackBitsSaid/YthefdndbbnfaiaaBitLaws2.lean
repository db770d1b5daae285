/- The walks of the laws on bits whose argument is a code to draw from. -/
import Derived.Test.YthefdndbbnfaiaaDrawBits
import Derived.Test.YthefdndbbnfaiaaOpenRow
import Derived.Laws.BytesArg
import Derived.Deep.RegionHeld3
namespace Go.Proofs.Ythefdndbbnfaiaa
open Go.RowKit

def strB (n : Nat) (b : Nat → Int) : ByteArray := strOfNums ((List.range n).map b)
theorem run_str {w : World} {hi n : Nat} {v : Value} {b : Nat → Int} (h : Sr .u8 hi w v n b) : (convert 22 9 v).run Try.prog w = .ok (.string (strB n b)) w := by
  obtain ⟨a, cap, rfl, _, hc⟩ := h
  by_cases h0 : 0 < n
  · obtain ⟨g, off, rfl, _, hcell⟩ := hc h0
    exact run_convert_bytes_arg w _ 5 Try.underlying22 Try.underlying5 g off n cap ((List.range n).map b) (by simp) (fun i hi => by rw [hcell i hi]; simp [List.getD, hi]) _ Try.underlying9
  · obtain rfl : n = 0 := by omega
    rw [run_convert_bytes_string w _ _ 5 _ 0 cap Try.underlying22 Try.underlying5 Try.underlying9]
    cases a <;> simp [Conv.bytesToString, loadCells]
    all_goals rfl
theorem yieldsStr {ops : Array Oper} {S : World → Prop} {op : Oper} {a : Act} {x : Operand} {v : Value} {n hi : Nat} {b : Nat → Int} (hS : ∀ w, S w → Sr .u8 hi w v n b) (hw : Region.wanted op (yielded ops a.tmps) = true) (ho : op.op = .convert 22 9 x)
    (hx : a.eval x = v) : YieldsIf Try.prog ops S op (.string (strB n b)) a :=
  .inl ⟨hw, fun w hw' => by
    unfold execOp
    simp only [ho, hx, Sem.run_bind, Sem.run_pure, Result.andThen_ok, run_str (hS w hw')]⟩
theorem pk_bd {b : Nat → Int} {n : Nat} (h : ∀ i, i < n → 0 ≤ b i ∧ b i ≤ 1) (j : Nat) : 0 ≤ pkB b n j ∧ pkB b n j ≤ 255 := by
  rw [pk_val]
  have := valT_bd (b := fun i => if i < n then b i else 0) (j := j) 8 (fun i _ => by
    by_cases e : 8 * j + i < n
    · simp only [e, if_true]; exact h _ e
    · simp only [e, if_false]; omega)
  have e : (2 : Int) ^ 8 = 256 := by decide
  rw [e] at this
  omega
theorem sameInts_yes (u v : Value) (n : Nat) (b c : Nat → Int) (w : World) (hu : Sr .i64 w.heap.size w u n b) (hv : Sr .i64 w.heap.size w v n c) (h : ∀ i, i < n → b i = c i) (hn : n ≤ 1000000000000) :
    Calls Try.prog 21 #[u, v] w fun e w' => e = .returned (.bool true) ∧ Below w.heap.size w w' := by
  have hv := hv.congr (c := b) (fun i hi => (h i hi).symm)
  clear h
  obtain ⟨a, cap, rfl, _, hc⟩ := hu
  obtain ⟨a', cap', rfl, _, hc'⟩ := hv
  have HC := Lib.hid hc; have HC' := Lib.hid hc'; clear hc hc'
  go_enter Try.func21, Try.ntmps21
  go_wp2
  go_loopw [5] (fun i wr => ∃ k m : Nat, k ≤ n ∧ i = .int .i64 k ∧ wr = w.drewN m) (fun i _ => n - (intOf i).toNat)
  case atStart => exact ⟨0, 0, by omega, rfl, rfl⟩
  case round =>
    obtain ⟨k, m, hk, rfl, rfl⟩ := hrel
    by_cases hlt : k < n
    · obtain ⟨g, off, rfl, hg, hcell⟩ := HC.out (by omega)
      obtain ⟨g', off', rfl, hg', hcell'⟩ := HC'.out (by omega)
      have c1 := hcell k hlt
      have c2 := hcell' k hlt
      have hk1 : (k : Int) < n := by omega
      have hk0 : (0 : Int) ≤ k := by omega
      clear hcell hcell' HC HC'
      go_wp2_with fail
      go_quiet (fail)
      go_wp2_with fail
      go_roundw
      case rel => exact ⟨k + 1, _, by omega, by go_num, rfl⟩
      case measure => simp [intOf]; omega
    · go_wp2_with fail
      go_ret
      exact ⟨rfl, below_drewN (Below.refl _ _) m⟩
set_option maxRecDepth 100000 in
set_option maxHeartbeats 4000000 in
theorem FnUnpackBits_walk (a : Option Addr) (len cap : Nat) (zs : List Int) (w : World) (h : IsRow .u8 w a len cap zs) :
    Calls Try.prog 5 #[.slice a len cap] w fun e w' => e = .returned (.bool true) ∧ Below w.heap.size w w' := by
  obtain ⟨hs, hm⟩ := h.bytes
  unfold maxLen at hm
  clear h
  by_cases hl : 1048576 < len
  · clear hs
    go_enter Try.func5, Try.ntmps5
    go_wp2
    go_ret
    exact ⟨rfl, Below.refl _ _⟩
  · have HS := Lib.hid hs; clear hs
    have HB := Lib.hid (Below.refl w.heap.size w)
    go_enter Try.func5, Try.ntmps5
    go_wp2_with fail
    refine (DrawUnpackBits_any _ len _ _ HS.out (by omega)).mono ?_; rintro e w1 ⟨v, k, f, z, rfl, hk, hf, hv, z0, z1, hw1⟩
    have zw1 : w.heap.size ≤ w1.heap.size := hw1.size
    replace HB := Lib.hid (HB.out.trans (hw1.mono (by omega)))
    clear hw1
    have SB := Lib.hid hv; obtain ⟨a1, cap1, rfl, hcap1, hc1⟩ := hv; clear hc1
    have HF := Lib.hid hf; clear hf
    obtain ⟨un, hun⟩ : ∃ un, unpN z k = un := ⟨_, rfl⟩
    have hun1 : un ≤ 100 := by rw [← hun]; unfold unpN; split <;> omega
    have HP := Lib.hid hun; clear hun
    go_wp2_with fail
    refine (iUnpackBits_any _ k f z _ (SB.out.sr.mono (by omega)) HF.out (by omega)).mono ?_; rintro e w2 ⟨v1, rfl, r1, hw2⟩
    have zw2 : w1.heap.size ≤ w2.heap.size := hw2.size
    replace HB := Lib.hid (HB.out.trans (hw2.mono (by omega)))
    replace SB := Lib.hid (SB.out.below hw2 (by omega))
    clear hw2
    rw [HP.out] at r1
    have R1 := Lib.hid r1; obtain ⟨a2, cap2, rfl, hcap2, hc2⟩ := r1; clear hc2
    go_wp2_with fail
    refine (sUnpackBits_any _ k f z _ (SB.out.sr.mono (by omega)) HF.out (by omega)).mono ?_; rintro e w3 ⟨v2, rfl, r2, hw3⟩
    have zw3 : w2.heap.size ≤ w3.heap.size := hw3.size
    replace HB := Lib.hid (HB.out.trans (hw3.mono (by omega)))
    replace SB := Lib.hid (SB.out.below hw3 (by omega))
    replace R1 := Lib.hid (R1.out.below hw3 (by omega))
    clear hw3
    rw [HP.out] at r2
    have R2 := Lib.hid r2; clear r2
    go_wp2_with fail
    refine (sameInts_yes _ _ un _ _ _ (R1.out.sr.mono (by omega)) (R2.out.sr.mono (by omega)) (fun _ _ => rfl) (by omega)).mono ?_; rintro e w4 ⟨rfl, hw4⟩
    have zw4 : w3.heap.size ≤ w4.heap.size := hw4.size
    replace HB := Lib.hid (HB.out.trans (hw4.mono (by omega)))
    replace SB := Lib.hid (SB.out.below hw4 (by omega))
    replace R1 := Lib.hid (R1.out.below hw4 (by omega))
    replace R2 := Lib.hid (R2.out.below hw4 (by omega))
    clear hw4
    clear R2
    by_cases hz : z < 0
    · obtain rfl : un = 0 := by rw [← HP.out]; unfold unpN; rw [if_neg (by omega)]
      go_wp2_with fail
      refine (alive_any _).mono ?_; rintro e wz ⟨rfl, hwz⟩
      go_wp2_with fail
      go_ret
      exact ⟨rfl, HB.out.trans (hwz.mono HB.out.size)⟩
    · by_cases hz2 : 8 * (k : Int) < z
      · obtain rfl : un = 0 := by rw [← HP.out]; unfold unpN; rw [if_neg (by omega)]
        go_wp2_with fail
        refine (alive_any _).mono ?_; rintro e wz ⟨rfl, hwz⟩
        go_wp2_with fail
        go_ret
        exact ⟨rfl, HB.out.trans (hwz.mono HB.out.size)⟩
      · skip
        have hz3 : z ≤ 8 * (k : Int) := by omega
        obtain ⟨zn, rfl⟩ := Int.eq_ofNat_of_zero_le (a := z) (by omega)
        obtain rfl : un = zn := by rw [← HP.out]; unfold unpN; rw [if_pos (by omega)]; omega
        have HU := Lib.hid (show unpN (8 * (k : Int)) k = 8 * k by unfold unpN; rw [if_pos (by omega)]; omega)
        have hub : bitsB (unpB f) (8 * k) = true := bitsB_true (by omega) (fun i _ => bitB_bd _ _)
        have HPN := Lib.hid (show pkN (unpB f) (8 * k) = k by unfold pkN; rw [hub, if_pos rfl]; omega)
        clear hub
        go_wp2_with fail
        refine (iUnpackBits_any _ k f _ _ (SB.out.sr.mono (by omega)) HF.out (by omega)).mono ?_; rintro e w5 ⟨v3, rfl, r3, hw5⟩
        have zw5 : w4.heap.size ≤ w5.heap.size := hw5.size
        replace HB := Lib.hid (HB.out.trans (hw5.mono (by omega)))
        replace SB := Lib.hid (SB.out.below hw5 (by omega))
        replace R1 := Lib.hid (R1.out.below hw5 (by omega))
        clear hw5
        rw [HU.out] at r3
        have R3 := Lib.hid r3; obtain ⟨a3, cap3, rfl, hcap3, hc3⟩ := r3
        have hcut : Hid (∀ hi w', Sr .i64 hi w' (.slice a3 (8 * k) cap3) (8 * k) (unpB f) → Sr .i64 hi w' (.slice a3 un cap3) un (unpB f)) := fun hi w' hS => by
          obtain ⟨a4, cap4, e4, h4, hc4⟩ := hS
          injection e4 with e5 _ e6
          subst e5 e6
          refine ⟨_, _, rfl, by omega, fun h0 => ?_⟩
          obtain ⟨g, off, hg, hgl, hcell⟩ := hc4 (by omega)
          exact ⟨g, off, hg, hgl, fun i hi => hcell i (by omega)⟩
        clear hc3
        have SB0 := SB
        go_wp2_with fail
        refine wp_region_held_drew (S := fun w' => Below w5.heap.size w5 w') (by kernel_rfl) (Below.refl _ _).drew (fun hw6 => ?_)
        generalize w5.drew = w6 at hw6 ⊢
        have zw6 : w5.heap.size ≤ w6.heap.size := hw6.size
        replace HB := Lib.hid (HB.out.trans (hw6.mono (by omega)))
        replace SB := Lib.hid (SB.out.below hw6 (by omega))
        replace R1 := Lib.hid (R1.out.below hw6 (by omega))
        replace R3 := Lib.hid (R3.out.below hw6 (by omega))
        refine wpAnyH_take (i := 0) (v := .slice a3 (8 * k) cap3) rfl (by kernel_rfl) (by kernel_rfl) (by kernel_rfl) (fun _ _ _ h => h) (Or.inl ⟨by rfl, fun w' _ => by go_simp⟩) hw6 ?_
        refine wpAnyH_take (i := 1) (v := .int .i64 (un : Int)) rfl (by kernel_rfl) (by kernel_rfl) (by kernel_rfl) (fun _ _ _ h => h) (Or.inl ⟨by rfl, fun w' _ => by go_simp⟩) hw6 ?_
        refine wpAnyH_take (i := 3) (v := .slice a2 un cap2) rfl (by kernel_rfl) (by kernel_rfl) (by kernel_rfl) (fun _ _ _ h => h) (Or.inl ⟨by rfl, fun w' _ => by go_simp⟩) hw6 ?_
        have u0 : (0 : Int) ≤ un := by omega
        have u1 : (un : Int) ≤ cap3 := by omega
        have u2 : ¬ (un : Int) < 0 := by omega
        refine wpAnyH_ready (rs := [2]) (by kernel_rfl) (by simp) ?_
        refine AllReadyH.cons rfl (fun K hK => ?_) AllReadyH.nil
        go_simp
        refine hK.out _ _ hw6 (fun _ => ?_)
        clear hK K
        refine wpAnyH_ready (rs := [4]) (by kernel_rfl) (by simp) ?_
        refine AllReadyH.cons rfl (fun K hK => ?_) AllReadyH.nil
        go_simp
        refine (sameInts_yes _ _ un _ _ _ (hcut.out _ _ (R3.out.sr.mono (by omega))) (R1.out.sr.mono (by omega)) (fun _ _ => rfl) (by omega)).mono ?_; rintro e w7 ⟨rfl, hw7⟩
        have zw7 : w6.heap.size ≤ w7.heap.size := hw7.size
        replace HB := Lib.hid (HB.out.trans (hw7.mono (by omega)))
        replace SB := Lib.hid (SB.out.below hw7 (by omega))
        replace R1 := Lib.hid (R1.out.below hw7 (by omega))
        replace R3 := Lib.hid (R3.out.below hw7 (by omega))
        refine hK.out _ _ (hw6.trans (hw7.mono (by omega))) (fun Hw7 => ?_)
        clear hK K hw7 hw6
        refine wpAnyH_take (i := 5) (v := .bool true) rfl (by kernel_rfl) (by kernel_rfl) (by kernel_rfl) (fun _ _ _ h => h) (Or.inl ⟨by rfl, fun w' _ => by go_simp⟩) Hw7 ?_
        refine wpAnyH_take (i := 6) (v := .slice a3 (8 * k) cap3) rfl (by kernel_rfl) (by kernel_rfl) (by kernel_rfl) (fun _ _ _ h => h) (Or.inl ⟨by rfl, fun w' _ => by go_simp⟩) Hw7 ?_
        refine wpAnyH_take (i := 9) (v := .slice a1 k cap1) rfl (by kernel_rfl) (by kernel_rfl) (by kernel_rfl) (fun _ _ _ h => h) (Or.inl ⟨by rfl, fun w' _ => by go_simp⟩) Hw7 ?_
        refine wpAnyH_take (i := 10) (v := .string (strB k f)) rfl (by kernel_rfl) (by kernel_rfl) (by kernel_rfl) (fun _ _ _ h => h) (yieldsStr (hi := w5.heap.size) (fun _ h => (SB0.out.below h (by omega)).sr.mono (by omega)) (by rfl) rfl rfl) Hw7 ?_
        refine wpAnyH_ready (rs := [7]) (by kernel_rfl) (by simp) ?_
        refine AllReadyH.cons rfl (fun K hK => ?_) AllReadyH.nil
        go_simp
        refine (iPackBits_any _ (8 * k) (unpB f) _ (R3.out.sr.mono (by omega)) (by omega)).mono ?_; rintro e w8 ⟨v5, rfl, r5, hw8⟩
        have zw8 : w7.heap.size ≤ w8.heap.size := hw8.size
        replace HB := Lib.hid (HB.out.trans (hw8.mono (by omega)))
        replace SB := Lib.hid (SB.out.below hw8 (by omega))
        replace R1 := Lib.hid (R1.out.below hw8 (by omega))
        replace R3 := Lib.hid (R3.out.below hw8 (by omega))
        refine hK.out _ _ (Hw7.trans (hw8.mono (by omega))) (fun Hw8 => ?_)
        clear hK K hw8 Hw7
        rw [HPN.out] at r5
        have hconv := run_str ((r5.congr (fun i hi => pk_unp f k i hi HF.out)).sr)
        refine wpAnyH_ready (rs := [8]) (by kernel_rfl) (by simp) ?_
        refine AllReadyH.cons rfl (fun K hK => ?_) AllReadyH.nil
        go_simp
        refine hK.out _ _ Hw8 (fun _ => ?_)
        clear hK K
        clear hconv
        have hbe : (BEq.beq (strB k f).toList (strB k f).toList) = true := by simp
        refine wpAnyH_ready (rs := [11]) (by kernel_rfl) (by simp) ?_
        refine AllReadyH.cons rfl (fun K hK => ?_) AllReadyH.nil
        go_simp
        refine hK.out _ _ Hw8 (fun _ => ?_)
        clear hK K
        refine wpAnyH_ready (rs := [12]) (by kernel_rfl) (by simp) ?_
        refine AllReadyH.cons rfl (fun K hK => ?_) AllReadyH.nil
        go_simp
        refine hK.out _ _ Hw8 (fun _ => ?_)
        clear hK K
        refine wpAnyH_ready (rs := [13]) (by kernel_rfl) (by simp) ?_
        refine AllReadyH.cons rfl (fun K hK => ?_) AllReadyH.nil
        go_simp
        refine hK.out _ _ Hw8 (fun _ => ?_)
        clear hK K
        refine wpAnyH_done (by kernel_rfl) ?_ _
        clear Hw8
        go_wp2_with fail
        go_ret
        exact ⟨rfl, HB.out⟩
end Go.Proofs.Ythefdndbbnfaiaa
