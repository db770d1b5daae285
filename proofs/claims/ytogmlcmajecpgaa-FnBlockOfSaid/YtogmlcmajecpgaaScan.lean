/- The scan order. -/
import Derived.Test.YtogmlcmajecpgaaAppend
import Derived.Test.YtogmlcmajecpgaaBlock
namespace Go.Proofs.Ytogmlcmajecpgaa
open Go.RowKit

theorem new_cell (w : World) (v : Value) (t : TypeId) : (w.alloc (.cells #[v] t)).cell? ⟨w.heap.size, 0, none⟩ = some v := by rw [cell_of_row _ _ 0 _ _ _ (heap_alloc_new w _)]; rfl
/-- The scan order. -/
def scN (i : Nat) : Nat := [0, 1, 4, 8, 5, 2, 3, 6, 9, 12, 13, 10, 7, 11, 14, 15].getD i 0
def scF (i : Nat) : Int := (scN i : Int)
def inI (s k : Nat) : Bool := decide ((if s % 2 = 0 then s - k else k) < 4 ∧ s - (if s % 2 = 0 then s - k else k) < 4)
def cntI (s k : Nat) : Nat := ((List.range s).map (fun t => (List.range (t + 1)).countP (inI t))).sum + (List.range k).countP (inI s)
theorem i_ev : ∀ s, s < 7 → ∀ k, k < s + 1 → (s % 2 = 0 ∧ s - k < 4 ∧ k < 4) → cntI s (k + 1) = cntI s k + 1 ∧ cntI s k < 16 ∧ scN (cntI s k) = 4 * (s - k) + k := by decide +kernel
theorem i_od : ∀ s, s < 7 → ∀ k, k < s + 1 → (s % 2 = 1 ∧ k < 4 ∧ s - k < 4) → cntI s (k + 1) = cntI s k + 1 ∧ cntI s k < 16 ∧ scN (cntI s k) = 4 * k + (s - k) := by decide +kernel
theorem i_no : ∀ s, s < 7 → ∀ k, k < s + 1 → (4 ≤ s - k ∨ 4 ≤ k) → cntI s (k + 1) = cntI s k := by decide +kernel
theorem i_row : ∀ s, s < 7 → cntI s (s + 1) = cntI (s + 1) 0 := by decide +kernel
theorem i_le : ∀ s, s < 8 → ∀ k, k < s + 2 → cntI s k ≤ 16 := by decide +kernel
theorem i_end : cntI 7 0 = 16 := by decide +kernel
theorem i_beg : cntI 0 0 = 0 := by decide +kernel
def inS (s k : Nat) : Bool := decide ((if s % 2 = 0 then 3 - k else k) ≤ s ∧ s ≤ 3 + (if s % 2 = 0 then 3 - k else k))
def cntS (s k : Nat) : Nat := ((List.range s).map (fun t => (List.range 4).countP (inS t))).sum + (List.range k).countP (inS s)
theorem s_ev : ∀ s, s < 7 → ∀ k, k < 4 → (s % 2 = 0 ∧ 3 ≤ s + k ∧ s + k ≤ 6) → cntS s (k + 1) = cntS s k + 1 ∧ cntS s k < 16 ∧ (scN (cntS s k) : Int) = 4 * (3 - (k : Int)) + s - (3 - k) := by decide +kernel
theorem s_evn : ∀ s, s < 7 → ∀ k, k < 4 → s % 2 = 0 → (s + k < 3 ∨ 6 < s + k) → cntS s (k + 1) = cntS s k := by decide +kernel
theorem s_od : ∀ s, s < 7 → ∀ k, k < 4 → (s % 2 = 1 ∧ k ≤ s ∧ s ≤ k + 3) → cntS s (k + 1) = cntS s k + 1 ∧ cntS s k < 16 ∧ (scN (cntS s k) : Int) = 4 * (k : Int) + s - k := by decide +kernel
theorem s_odn : ∀ s, s < 7 → ∀ k, k < 4 → s % 2 = 1 → (s < k ∨ k + 3 < s) → cntS s (k + 1) = cntS s k := by decide +kernel
theorem s_row : ∀ s, s < 7 → cntS s 4 = cntS (s + 1) 0 := by decide +kernel
theorem s_le : ∀ s, s < 8 → ∀ k, k < 5 → cntS s k ≤ 16 := by decide +kernel
theorem s_end : cntS 7 0 = 16 := by decide +kernel
theorem s_beg : cntS 0 0 = 0 := by decide +kernel
/-- What has been written of the order. -/
def scTo (n i : Nat) : Int := if i < n then scF i else 0
theorem scTo_step (n : Nat) (y : Int) (hy : y = scF n) (i : Nat) : (if i = n then y else scTo n i) = scTo (n + 1) i := by
  unfold scTo
  by_cases e : i = n
  · subst e; rw [if_pos rfl, if_pos (by omega), hy]
  · rw [if_neg e]
    by_cases h : i < n
    · rw [if_pos h, if_pos (by omega)]
    · rw [if_neg h, if_neg (by omega)]
set_option maxHeartbeats 1000000 in
theorem scanOrder_any (w : World) :
    Calls Try.prog 33 #[] w fun e w' => e = .returned (.agg (VN 16 scF)) ∧ Below w.heap.size w w' := by
  go_enter Try.func33, Try.ntmps33
  go_wp2
  go_loopw [2, 7] (fun c i wr => ∃ s n : Nat, s ≤ 7 ∧ Hid (n = cntI s 0) ∧ i = .int .i64 s ∧ c = .int .i64 n ∧ Blk wr w.heap.size 16 29 (fun _ => 0) ∧ Blk wr (w.heap.size + 1) 16 29 (scTo n) ∧ Below w.heap.size w wr) (fun _ i _ => 7 - (intOf i).toNat)
  case atStart =>
    refine ⟨0, 0, by omega, Lib.hid i_beg.symm, rfl, rfl, ?_, ?_, ?_⟩
    · rw [← zero16]; exact (Blk.new' rfl).alloc _
    · have : scTo 0 = fun _ => 0 := by funext i; unfold scTo; rw [if_neg (by omega)]
      rw [this, ← zero16]; exact Blk.new' (by simp)
    · exact ((Below.refl _ _).alloc (Nat.le_refl _) _).alloc (by simp) _
  case round =>
    obtain ⟨s, n, hs, hn, rfl, rfl, hA, hX, hbel⟩ := hrel
    by_cases hlt : s < 7
    · have hlt' : (s : Int) < 7 := by omega
      have hc0 : n ≤ 16 := by rw [hn.out]; exact i_le s (by omega) 0 (by omega)
      go_wp2_with fail
      go_loopw [2, 12] (fun c i wr => ∃ k n : Nat, k ≤ s + 1 ∧ Hid (n = cntI s k) ∧ i = .int .i64 k ∧ c = .int .i64 n ∧ Blk wr w.heap.size 16 29 (fun _ => 0) ∧ Blk wr (w.heap.size + 1) 16 29 (scTo n) ∧ Below w.heap.size w wr) (fun _ i _ => s + 1 - (intOf i).toNat)
      case atStart => exact ⟨0, n, by omega, hn, rfl, rfl, hA, hX, hbel⟩
      case round =>
        clear hA hX hbel hn hc0
        obtain ⟨k, n, hk, hn, rfl, rfl, hA, hX, hbel⟩ := hrel
        have hc0 : n ≤ 16 := by rw [hn.out]; exact i_le s (by omega) k (by omega)
        by_cases hkl : k < s + 1
        · by_cases he : s % 2 = 0
          · have e0 : ((s : Int) % 2 == 0) = true := by rw [beq_iff_eq]; omega
            by_cases h1 : s - k < 4
            · by_cases h2 : k < 4
              · obtain ⟨q1, q2, q3⟩ := i_ev s hlt k hkl ⟨he, h1, h2⟩
                have HQ1 := Lib.hid q1
                have HQ3 := Lib.hid q3
                clear q1 q3
                rw [← hn.out] at q2
                have c1 := hX.cell n q2
                have f1 := hX.frozen n
                go_wp2_with fail
                go_roundw
                case rel => exact ⟨k + 1, n + 1, by omega, Lib.hid (by rw [HQ1.out, hn.out]), by go_num, by go_num, hA.other (by omega), (hX.set n _).congr (fun j _ => scTo_step n _ (by unfold scF; rw [hn.out, HQ3.out]; omega) j), hbel.setCell (by simp) _⟩
                case measure => simp [intOf]; omega
              · have q := Lib.hid (i_no s hlt k hkl (by omega))
                go_wp2_with fail
                go_roundw
                case rel => exact ⟨k + 1, n, by omega, Lib.hid (by rw [q.out, hn.out]), by go_num, rfl, hA, hX, hbel⟩
                case measure => simp [intOf]; omega
            · have q := Lib.hid (i_no s hlt k hkl (by omega))
              go_wp2_with fail
              go_roundw
              case rel => exact ⟨k + 1, n, by omega, Lib.hid (by rw [q.out, hn.out]), by go_num, rfl, hA, hX, hbel⟩
              case measure => simp [intOf]; omega
          · have e0 : ((s : Int) % 2 == 0) = false := by rw [beq_eq_false_iff_ne]; omega
            by_cases h2 : k < 4
            · by_cases h1 : s - k < 4
              · obtain ⟨q1, q2, q3⟩ := i_od s hlt k hkl ⟨by omega, h2, h1⟩
                have HQ1 := Lib.hid q1
                have HQ3 := Lib.hid q3
                clear q1 q3
                rw [← hn.out] at q2
                have c1 := hX.cell n q2
                have f1 := hX.frozen n
                go_wp2_with fail
                go_roundw
                case rel => exact ⟨k + 1, n + 1, by omega, Lib.hid (by rw [HQ1.out, hn.out]), by go_num, by go_num, hA.other (by omega), (hX.set n _).congr (fun j _ => scTo_step n _ (by unfold scF; rw [hn.out, HQ3.out]; omega) j), hbel.setCell (by simp) _⟩
                case measure => simp [intOf]; omega
              · have q := Lib.hid (i_no s hlt k hkl (by omega))
                go_wp2_with fail
                go_roundw
                case rel => exact ⟨k + 1, n, by omega, Lib.hid (by rw [q.out, hn.out]), by go_num, rfl, hA, hX, hbel⟩
                case measure => simp [intOf]; omega
            · have q := Lib.hid (i_no s hlt k hkl (by omega))
              go_wp2_with fail
              go_roundw
              case rel => exact ⟨k + 1, n, by omega, Lib.hid (by rw [q.out, hn.out]), by go_num, rfl, hA, hX, hbel⟩
              case measure => simp [intOf]; omega
        · obtain rfl : k = s + 1 := by omega
          have q := Lib.hid (i_row s hlt)
          go_wp2_with fail
          go_roundw
          case rel => exact ⟨s + 1, n, by omega, Lib.hid (by rw [hn.out, q.out]), by go_num, rfl, hA, hX, hbel⟩
          case measure => simp [intOf]; omega
    · obtain rfl : s = 7 := by omega
      have hn16 : n = 16 := by rw [hn.out, i_end]
      have hX2 : Blk wr (w.heap.size + 1) 16 29 scF := hX.congr (fun j hj => by unfold scTo; rw [if_pos (by omega)])
      clear hX
      go_wp2_with (first | (refine wpList_load_row rfl 29 _ rfl (w.heap.size + 1) rfl 29 (VN 16 scF) (0, 0) _ hX2 Try.underlying29 rfl (info16 scF) ?_) | (refine wpList_store_row rfl 29 _ _ rfl w.heap.size (VN 16 scF) rfl rfl 29 (VN 16 fun _ => 0) hA (info16 scF) (by rw [VN_size, VN_size]) (VN_one _ _) ?_))
      refine bodyPost_ret (v := .agg (VN 16 scF)) (results_cell_row Try.results33 _ _ w.heap.size 29 _ (0, 0) _ rfl (hA.setRow scF) Try.underlying29 rfl (info16 scF)) rfl ⟨rfl, below_setRow hbel (Nat.le_refl _) _⟩
theorem iScanOrder_any (w : World) :
    Calls Try.prog 10 #[] w fun e w' => ∃ v, e = .returned v ∧ Sn .i64 w.heap.size w'.heap.size w' v 16 scF ∧ Below w.heap.size w w' := by
  go_enter Try.func10, Try.ntmps10
  go_wp2_with fail
  refine (scanOrder_any _).mono ?_; rintro e w1 ⟨rfl, hb1⟩
  have HB := Lib.hid hb1; clear hb1
  have hz := HB.out.size
  have hA : Blk (w1.alloc (.cells #[.int .i64 0, .int .i64 0, .int .i64 0, .int .i64 0, .int .i64 0, .int .i64 0, .int .i64 0, .int .i64 0, .int .i64 0, .int .i64 0, .int .i64 0, .int .i64 0, .int .i64 0, .int .i64 0, .int .i64 0, .int .i64 0] 29)) w1.heap.size 16 29 (fun _ => 0) := by rw [← zero16]; exact Blk.new' rfl
  go_wp2_with (refine wpList_store_row rfl 29 _ _ rfl w1.heap.size (VN 16 scF) rfl rfl 29 (VN 16 fun _ => 0) hA (info16 scF) (by rw [VN_size, VN_size]) (VN_one _ _) ?_)
  go_ret
  have hR := hA.setRow scF
  exact ⟨_, rfl, Sn.of_blk hR hz hR.lt, below_setRow (HB.out.alloc hz _) hz _⟩
set_option maxHeartbeats 1000000 in
theorem sScanOrder_any (w : World) :
    Calls Try.prog 12 #[] w fun e w' => ∃ v, e = .returned v ∧ Sn .i64 w.heap.size w'.heap.size w' v 16 scF ∧ Below w.heap.size w w' := by
  go_enter Try.func12, Try.ntmps12
  go_wp2
  go_loopw [1, 2] (fun v i wr => ∃ s : Nat, s ≤ 7 ∧ i = .int .i64 s ∧ OwnK .i64 3 w.heap.size wr v (cntS s 0) scF ∧ Below w.heap.size w wr) (fun _ i _ => 7 - (intOf i).toNat)
  case atStart => exact ⟨0, by omega, rfl, by rw [s_beg]; exact OwnK.made (Nat.le_refl _) _, (Below.refl _ _).alloc (Nat.le_refl _) _⟩
  case round =>
    obtain ⟨s, hs, rfl, hX, hbel⟩ := hrel
    have hz := hbel.size
    by_cases hlt : s < 7
    · have hlt' : (s : Int) < 7 := by omega
      go_wp2_with fail
      go_loopw [1, 3] (fun v i wr => ∃ k : Nat, k ≤ 4 ∧ i = .int .i64 k ∧ OwnK .i64 3 w.heap.size wr v (cntS s k) scF ∧ Below w.heap.size w wr) (fun _ i _ => 4 - (intOf i).toNat)
      case atStart => exact ⟨0, by omega, rfl, hX, hbel⟩
      case round =>
        clear hX hbel hz
        obtain ⟨k, hk, rfl, hX, hbel⟩ := hrel
        have hz := hbel.size
        have hc0 := s_le s (by omega) k (by omega)
        by_cases hkl : k < 4
        · by_cases he : s % 2 = 0
          · have e0 : ((s : Int) % 2 == 0) = true := by rw [beq_iff_eq]; omega
            by_cases h1 : 3 ≤ s + k ∧ s + k ≤ 6
            · obtain ⟨q1, q2, q3⟩ := s_ev s hlt k hkl ⟨he, h1⟩
              have HQ1 := Lib.hid q1
              have HQ3 := Lib.hid q3
              clear q1 q3
              obtain ⟨n, hn⟩ : ∃ n, cntS s k = n := ⟨_, rfl⟩
              rw [hn] at q2 hc0 hX HQ1 HQ3
              go_wp2_with fail
              refine (l1In_yes _ _ _ _ (by omega) (by omega)).mono ?_; rintro e _ ⟨rfl, rfl⟩
              go_wp2_with (at_builtin; refine appendInt w.heap.size _ wr.heap.size (hX.alloc _) (new_cell _ _ _) (by omega) (by simp; omega) rfl rfl rfl rfl ?_; intro v' w1 hX1 hgrow hat)
              have hbel1 := grown_below (hbel.alloc hz _) hgrow (hX.alloc _) (Nat.le_refl _) (by simp; omega)
              go_roundw
              case rel => exact ⟨k + 1, by omega, by go_num, by rw [HQ1.out]; exact hX1.congr (fun i _ => by by_cases e : i = n <;> simp [e, scF, HQ3.out]), hbel1⟩
              case measure => simp [intOf]; omega
            · have q := Lib.hid (s_evn s hlt k hkl he (by omega))
              go_wp2_with fail
              refine (l1In_no _ _ _ _ (by omega)).mono ?_; rintro e _ ⟨rfl, rfl⟩
              go_wp2_with fail
              go_roundw
              case rel => exact ⟨k + 1, by omega, by go_num, by rw [q.out]; exact hX, hbel⟩
              case measure => simp [intOf]; omega
          · have e0 : ((s : Int) % 2 == 0) = false := by rw [beq_eq_false_iff_ne]; omega
            by_cases h1 : k ≤ s ∧ s ≤ k + 3
            · obtain ⟨q1, q2, q3⟩ := s_od s hlt k hkl ⟨by omega, h1⟩
              have HQ1 := Lib.hid q1
              have HQ3 := Lib.hid q3
              clear q1 q3
              obtain ⟨n, hn⟩ : ∃ n, cntS s k = n := ⟨_, rfl⟩
              rw [hn] at q2 hc0 hX HQ1 HQ3
              go_wp2_with fail
              refine (l1In_yes _ _ _ _ (by omega) (by omega)).mono ?_; rintro e _ ⟨rfl, rfl⟩
              go_wp2_with (at_builtin; refine appendInt w.heap.size _ wr.heap.size (hX.alloc _) (new_cell _ _ _) (by omega) (by simp; omega) rfl rfl rfl rfl ?_; intro v' w1 hX1 hgrow hat)
              have hbel1 := grown_below (hbel.alloc hz _) hgrow (hX.alloc _) (Nat.le_refl _) (by simp; omega)
              go_roundw
              case rel => exact ⟨k + 1, by omega, by go_num, by rw [HQ1.out]; exact hX1.congr (fun i _ => by by_cases e : i = n <;> simp [e, scF, HQ3.out]), hbel1⟩
              case measure => simp [intOf]; omega
            · have q := Lib.hid (s_odn s hlt k hkl (by omega) (by omega))
              go_wp2_with fail
              refine (l1In_no _ _ _ _ (by omega)).mono ?_; rintro e _ ⟨rfl, rfl⟩
              go_wp2_with fail
              go_roundw
              case rel => exact ⟨k + 1, by omega, by go_num, by rw [q.out]; exact hX, hbel⟩
              case measure => simp [intOf]; omega
        · obtain rfl : k = 4 := by omega
          have q := Lib.hid (s_row s hlt)
          go_wp2_with fail
          go_roundw
          case rel => exact ⟨s + 1, by omega, by go_num, by rw [← q.out]; exact hX, hbel⟩
          case measure => simp [intOf]; omega
    · obtain rfl : s = 7 := by omega
      rw [s_end] at hX
      go_wp2_with fail
      go_ret
      exact ⟨_, rfl, hX.sn, hbel⟩
theorem sameInts_yes (u v : Value) (n : Nat) (b c : Nat → Int) (w : World) (hu : Sr .i64 w.heap.size w u n b) (hv : Sr .i64 w.heap.size w v n c) (h : ∀ i, i < n → b i = c i) (hn : n ≤ 1000000000000) :
    Calls Try.prog 11 #[u, v] w fun e w' => e = .returned (.bool true) ∧ Below w.heap.size w w' := by
  have hv := hv.congr (c := b) (fun i hi => (h i hi).symm)
  clear h
  obtain ⟨a, cap, rfl, _, hc⟩ := hu
  obtain ⟨a', cap', rfl, _, hc'⟩ := hv
  have HC := Lib.hid hc; have HC' := Lib.hid hc'; clear hc hc'
  go_enter Try.func11, Try.ntmps11
  go_wp2
  go_loopw [5] (fun i wr => ∃ k m : Nat, k ≤ n ∧ i = .int .i64 k ∧ wr = w.drewN m) (fun i _ => n - (intOf i).toNat)
  case atStart => exact ⟨0, 0, by omega, rfl, rfl⟩
  case round =>
    obtain ⟨k, m, hk, rfl, rfl⟩ := hrel
    by_cases hlt : k < n
    · obtain ⟨g, off, rfl, hg, hcell⟩ := HC.out (by omega)
      obtain ⟨g', off', rfl, hg', hcell'⟩ := HC'.out (by omega)
      have c1 := hcell k hlt
      have c2 := hcell' k hlt
      have hk1 : (k : Int) < n := by omega
      have hk0 : (0 : Int) ≤ k := by omega
      clear hcell hcell' HC HC'
      go_wp2_with fail
      go_quiet (fail)
      go_wp2_with fail
      go_roundw
      case rel => exact ⟨k + 1, _, by omega, by go_num, rfl⟩
      case measure => simp [intOf]; omega
    · go_wp2_with fail
      go_ret
      exact ⟨rfl, below_drewN (Below.refl _ _) m⟩
end Go.Proofs.Ytogmlcmajecpgaa
