/- Contracts of the functions on pictures: validity, samples, differences, of the program and of the reference. -/
import Derived.Test.YtjogdkeoadkbnaaAppend
import Derived.Test.YtjogdkeoadkbnaaPicMath
namespace Go.Proofs.Ytjogdkeoadkbnaa
open Go.RowKit

/-- The fields of a picture make a valid one. -/
def pvB (pw ph : Int) (n : Nat) (b : Nat → Int) : Bool := sideB pw && sideB ph && decide ((n : Int) = pw * ph) && smpB b n
theorem pvB_out {pw ph : Int} {n : Nat} {b : Nat → Int} (h : pvB pw ph n b = true) : sideB pw = true ∧ sideB ph = true ∧ (n : Int) = pw * ph ∧ ∀ k, k < n → 0 ≤ b k ∧ b k ≤ 255 := by
  unfold pvB at h
  simp only [Bool.and_eq_true, decide_eq_true_eq] at h
  exact ⟨h.1.1.1, h.1.1.2, h.1.2, smpB_out h.2⟩
theorem pvB_in {pw ph : Int} {n : Nat} {b : Nat → Int} (h1 : sideB pw = true) (h2 : sideB ph = true) (h3 : (n : Int) = pw * ph) : pvB pw ph n b = smpB b n := by
  unfold pvB
  rw [h1, h2, decide_eq_true h3]; rfl
theorem sideB_out {a : Int} (h : sideB a = true) : 8 ≤ a ∧ a ≤ 32 ∧ a % 8 = 0 := of_decide_eq_true h
theorem sideB_in {a : Int} (h : 8 ≤ a ∧ a ≤ 32 ∧ a % 8 = 0) : sideB a = true := decide_eq_true h
theorem pvB_w {pw ph : Int} {n : Nat} {b : Nat → Int} (h : ¬ (8 ≤ pw ∧ pw ≤ 32 ∧ pw % 8 = 0)) : pvB pw ph n b = false := by
  unfold pvB sideB
  rw [decide_eq_false h]; rfl
theorem pvB_h {pw ph : Int} {n : Nat} {b : Nat → Int} (h : ¬ (8 ≤ ph ∧ ph ≤ 32 ∧ ph % 8 = 0)) : pvB pw ph n b = false := by
  unfold pvB
  rw [show sideB ph = false from decide_eq_false h, Bool.and_false]; rfl
theorem pvB_n {pw ph : Int} {n : Nat} {b : Nat → Int} (h : ¬ (n : Int) = pw * ph) : pvB pw ph n b = false := by
  unfold pvB
  rw [decide_eq_false h, Bool.and_false]; rfl

theorem samplesIn_sr (v : Value) (n hi : Nat) (b : Nat → Int) (w : World) (h : Sr .i64 hi w v n b) (hn : n ≤ 1000000000000) :
    Calls Try.prog 46 #[v] w fun e w' => e = .returned (.bool (smpB b n)) ∧ w = w' := by
  obtain ⟨a, cap, rfl, _, hc⟩ := h
  have HC := Lib.hid hc; clear hc
  go_enter Try.func46, Try.ntmps46
  go_wp2
  go_loop [7] (fun i => ∃ k : Nat, k ≤ n ∧ i = .int .i64 k ∧ Hid (∀ j, j < k → 0 ≤ b j ∧ b j ≤ 255)) (fun i => n - (intOf i).toNat)
  case atStart => exact ⟨0, by omega, rfl, fun j hj => absurd hj (by omega)⟩
  case round =>
    obtain ⟨k, hk, rfl, HJ⟩ := hrel
    by_cases hlt : k < n
    · obtain ⟨g, off, rfl, hg, hcell⟩ := HC.out (by omega)
      have hi := hcell k hlt
      clear hcell HC
      by_cases h1 : b k < 0 ∨ 255 < b k
      · have H1 := Lib.hid h1; clear h1
        go_wp2_with (go_at_call 40; refine (sampleValid_no _ _ H1.out).mono ?_; rintro e w' ⟨rfl, rfl⟩)
        go_ret
        exact ⟨by rw [smpB_false k hlt (by have := H1.out; omega)]; rfl, rfl⟩
      · have h1 : 0 ≤ b k := by omega
        have h2 : b k ≤ 255 := by omega
        go_wp2_with (go_at_call 40; refine (sampleValid_yes _ _ (by omega) (by omega)).mono ?_; rintro e w' ⟨rfl, rfl⟩)
        go_round
        case rel => exact ⟨k + 1, by omega, by go_num, fun j hj => by by_cases e : j = k; (subst e; omega); exact HJ.out j (by omega)⟩
        case measure => simp [intOf]; omega
    · go_wp2
      go_ret
      exact ⟨by rw [smpB_true (fun j hj => HJ.out j (by omega))]; rfl, rfl⟩

theorem iPictureValid_any (pw ph : Int) (v : Value) (n : Nat) (b : Nat → Int) (w : World) (h : Sr .i64 w.heap.size w v n b) (hn : n ≤ 1000000000000) :
    Calls Try.prog 20 #[.agg #[.int .i64 pw, .int .i64 ph, v]] w fun e w' => e = .returned (.bool (pvB pw ph n b)) ∧ Below w.heap.size w w' := by
  have HS := Lib.hid (h.alloc (Nat.le_refl _) (.cells #[.int .i64 pw, .int .i64 ph, v] 24))
  obtain ⟨a, cap, rfl, _, _⟩ := h
  have hbel : Below w.heap.size w (w.alloc (.cells #[.int .i64 pw, .int .i64 ph, .slice a n cap] 24)) := (Below.refl _ _).alloc (Nat.le_refl _) _
  by_cases h1 : sideB pw = true
  · by_cases h2 : sideB ph = true
    · have hm := side_mul pw ph h1 h2
      by_cases h3 : (n : Int) = pw * ph
      · have HP := Lib.hid (pvB_in (b := b) h1 h2 h3)
        have e3 : ((n : Int) != pw * ph) = false := by simp [h3]
        clear h3
        go_enter Try.func20, Try.ntmps20
        go_wp2_with fail
        refine (sideValid_any _ _).mono ?_; rintro e w' ⟨rfl, rfl⟩
        go_wp2_with fail
        refine (sideValid_any _ _).mono ?_; rintro e w' ⟨rfl, rfl⟩
        go_wp2_with fail
        refine (samplesIn_sr _ n _ b _ HS.out hn).mono ?_; rintro e w' ⟨rfl, rfl⟩
        go_wp2_with fail
        go_ret
        exact ⟨by rw [HP.out]; rfl, hbel⟩
      · have HP := Lib.hid (pvB_n (b := b) h3)
        have e3 : ((n : Int) != pw * ph) = true := by simp [h3]
        clear h3
        go_enter Try.func20, Try.ntmps20
        go_wp2_with fail
        refine (sideValid_any _ _).mono ?_; rintro e w' ⟨rfl, rfl⟩
        go_wp2_with fail
        refine (sideValid_any _ _).mono ?_; rintro e w' ⟨rfl, rfl⟩
        go_wp2_with fail
        go_ret
        exact ⟨by rw [HP.out]; rfl, hbel⟩
    · have HP := Lib.hid (show pvB pw ph n b = false from pvB_h (fun h => h2 (sideB_in h)))
      have h2 : sideB ph = false := by simpa using h2
      go_enter Try.func20, Try.ntmps20
      go_wp2_with fail
      refine (sideValid_any _ _).mono ?_; rintro e w' ⟨rfl, rfl⟩
      go_wp2_with fail
      refine (sideValid_any _ _).mono ?_; rintro e w' ⟨rfl, rfl⟩
      go_wp2_with fail
      go_ret
      exact ⟨by rw [HP.out]; rfl, hbel⟩
  · have HP := Lib.hid (show pvB pw ph n b = false from pvB_w (fun h => h1 (sideB_in h)))
    have h1 : sideB pw = false := by simpa using h1
    go_enter Try.func20, Try.ntmps20
    go_wp2_with fail
    refine (sideValid_any _ _).mono ?_; rintro e w' ⟨rfl, rfl⟩
    go_wp2_with fail
    go_ret
    exact ⟨by rw [HP.out]; rfl, hbel⟩

theorem sPictureValid_any (pw ph : Int) (v : Value) (n : Nat) (b : Nat → Int) (w : World) (h : Sr .i64 w.heap.size w v n b) (hn : n ≤ 1000000000000) :
    Calls Try.prog 18 #[.agg #[.int .i64 pw, .int .i64 ph, v]] w fun e w' => e = .returned (.bool (pvB pw ph n b)) ∧ Below w.heap.size w w' := by
  obtain ⟨a, cap, rfl, _, hc⟩ := h
  have HC := Lib.hid hc; clear hc
  have hbel : Below w.heap.size w (w.alloc (.cells #[.int .i64 pw, .int .i64 ph, .slice a n cap] 24)) := (Below.refl _ _).alloc (Nat.le_refl _) _
  by_cases h1 : pw < 8 ∨ 32 < pw
  · have HP := Lib.hid (show pvB pw ph n b = false from pvB_w (by omega))
    have H1 := Lib.hid h1; clear h1
    go_enter Try.func18, Try.ntmps18
    go_wp2_with fail
    refine (l1In_no _ _ _ _ H1.out).mono ?_; rintro e w' ⟨rfl, rfl⟩
    go_wp2_with fail
    go_ret
    exact ⟨by rw [HP.out]; rfl, hbel⟩
  · have a1 : 8 ≤ pw := by omega
    have a2 : pw ≤ 32 := by omega
    clear h1
    by_cases h1 : ph < 8 ∨ 32 < ph
    · have HP := Lib.hid (show pvB pw ph n b = false from pvB_h (by omega))
      have H1 := Lib.hid h1; clear h1
      go_enter Try.func18, Try.ntmps18
      go_wp2_with fail
      refine (l1In_yes _ _ _ _ a1 a2).mono ?_; rintro e w' ⟨rfl, rfl⟩
      go_wp2_with fail
      refine (l1In_no _ _ _ _ H1.out).mono ?_; rintro e w' ⟨rfl, rfl⟩
      go_wp2_with fail
      go_ret
      exact ⟨by rw [HP.out]; rfl, hbel⟩
    · have b1 : 8 ≤ ph := by omega
      have b2 : ph ≤ 32 := by omega
      clear h1
      by_cases h1 : pw % 8 = 0
      · by_cases h2 : ph % 8 = 0
        · have hs1 := sideB_in ⟨a1, a2, h1⟩
          have hs2 := sideB_in ⟨b1, b2, h2⟩
          have hm := side_mul pw ph hs1 hs2
          have e1 : (pw % 8 != 0) = false := by simp [h1]
          have e2 : (ph % 8 != 0) = false := by simp [h2]
          clear h1 h2
          by_cases h3 : (n : Int) = pw * ph
          · have HP := Lib.hid (pvB_in (b := b) hs1 hs2 h3)
            have e3 : ((n : Int) != pw * ph) = false := by simp [h3]
            clear h3 hs1 hs2
            go_enter Try.func18, Try.ntmps18
            go_wp2_with fail
            refine (l1In_yes _ _ _ _ a1 a2).mono ?_; rintro e w' ⟨rfl, rfl⟩
            go_wp2_with fail
            refine (l1In_yes _ _ _ _ b1 b2).mono ?_; rintro e w' ⟨rfl, rfl⟩
            go_wp2_with fail
            go_loop [3] (fun i => ∃ k : Nat, k ≤ n ∧ i = .int .i64 k ∧ Hid (∀ j, j < k → 0 ≤ b j ∧ b j ≤ 255)) (fun i => n - (intOf i).toNat)
            case atStart => exact ⟨0, by omega, rfl, fun j hj => absurd hj (by omega)⟩
            case round =>
              obtain ⟨k, hk, rfl, HJ⟩ := hrel
              by_cases hlt : k < n
              · obtain ⟨g, off, rfl, hg, hcell⟩ := HC.out (by omega)
                have hi := (hbel.cell (p := ⟨g, off + k, none⟩) hg).trans (hcell k hlt)
                clear hcell HC
                by_cases h1 : b k < 0 ∨ 255 < b k
                · have H1 := Lib.hid h1; clear h1
                  have HF := Lib.hid (smpB_false (b := b) k hlt (by have := H1.out; omega))
                  go_wp2_with (go_at_call 38; refine (l1In_no _ _ _ _ H1.out).mono ?_; rintro e w' ⟨rfl, rfl⟩)
                  go_ret
                  exact ⟨by rw [HP.out, HF.out]; rfl, hbel⟩
                · have h1 : 0 ≤ b k := by omega
                  have h2 : b k ≤ 255 := by omega
                  go_wp2_with (go_at_call 38; refine (l1In_yes _ _ _ _ (by omega) (by omega)).mono ?_; rintro e w' ⟨rfl, rfl⟩)
                  go_round
                  case rel => exact ⟨k + 1, by omega, by go_num, fun j hj => by by_cases e : j = k; (subst e; omega); exact HJ.out j (by omega)⟩
                  case measure => simp [intOf]; omega
              · have HF := Lib.hid (show smpB b n = true from smpB_true (fun j hj => HJ.out j (by omega)))
                go_wp2_with fail
                go_ret
                exact ⟨by rw [HP.out, HF.out]; rfl, hbel⟩
          · have HP := Lib.hid (pvB_n (b := b) h3)
            have e3 : ((n : Int) != pw * ph) = true := by simp [h3]
            clear h3 hs1 hs2
            go_enter Try.func18, Try.ntmps18
            go_wp2_with fail
            refine (l1In_yes _ _ _ _ a1 a2).mono ?_; rintro e w' ⟨rfl, rfl⟩
            go_wp2_with fail
            refine (l1In_yes _ _ _ _ b1 b2).mono ?_; rintro e w' ⟨rfl, rfl⟩
            go_wp2_with fail
            go_ret
            exact ⟨by rw [HP.out]; rfl, hbel⟩
        · have HP := Lib.hid (show pvB pw ph n b = false from pvB_h (by omega))
          have e1 : (pw % 8 != 0) = false := by simp [h1]
          have e2 : (ph % 8 != 0) = true := by simp [h2]
          clear h1 h2
          go_enter Try.func18, Try.ntmps18
          go_wp2_with fail
          refine (l1In_yes _ _ _ _ a1 a2).mono ?_; rintro e w' ⟨rfl, rfl⟩
          go_wp2_with fail
          refine (l1In_yes _ _ _ _ b1 b2).mono ?_; rintro e w' ⟨rfl, rfl⟩
          go_wp2_with fail
          go_ret
          exact ⟨by rw [HP.out]; rfl, hbel⟩
      · have HP := Lib.hid (show pvB pw ph n b = false from pvB_w (by omega))
        have e1 : (pw % 8 != 0) = true := by simp [h1]
        clear h1
        go_enter Try.func18, Try.ntmps18
        go_wp2_with fail
        refine (l1In_yes _ _ _ _ a1 a2).mono ?_; rintro e w' ⟨rfl, rfl⟩
        go_wp2_with fail
        refine (l1In_yes _ _ _ _ b1 b2).mono ?_; rintro e w' ⟨rfl, rfl⟩
        go_wp2_with fail
        go_ret
        exact ⟨by rw [HP.out]; rfl, hbel⟩

/-- The place of a sample; positions outside are moved to the nearest edge. -/
def atN (pw ph x y : Int) : Nat := (clampI y 0 (ph - 1) * pw + clampI x 0 (pw - 1)).toNat
theorem clamp_bd (n hi : Int) (h : 0 ≤ hi) : 0 ≤ clampI n 0 hi ∧ clampI n 0 hi ≤ hi := by unfold clampI; omega
theorem at_bd {pw ph : Int} {n : Nat} {b : Nat → Int} (h : pvB pw ph n b = true) (x y : Int) :
    (8 ≤ pw ∧ pw ≤ 32 ∧ 8 ≤ ph ∧ ph ≤ 32) ∧ (0 ≤ clampI x 0 (pw - 1) ∧ clampI x 0 (pw - 1) ≤ 31) ∧ (0 ≤ clampI y 0 (ph - 1) ∧ clampI y 0 (ph - 1) ≤ 31) ∧ (0 ≤ clampI y 0 (ph - 1) * pw ∧ clampI y 0 (ph - 1) * pw ≤ 1000) ∧ clampI y 0 (ph - 1) * pw + clampI x 0 (pw - 1) = (atN pw ph x y : Int) ∧ atN pw ph x y < n := by
  obtain ⟨h1, h2, h3, _⟩ := pvB_out h
  have h1 := sideB_out h1
  have h2 := sideB_out h2
  have cx := clamp_bd x (pw - 1) (by omega)
  have cy := clamp_bd y (ph - 1) (by omega)
  have m1 : clampI y 0 (ph - 1) * pw ≤ (ph - 1) * pw := Int.mul_le_mul_of_nonneg_right cy.2 (by omega)
  have m2 : (ph - 1) * pw = pw * ph - pw := by rw [Int.sub_mul, Int.one_mul, Int.mul_comm]
  have m3 : (ph - 1) * pw ≤ (ph - 1) * 32 := Int.mul_le_mul_of_nonneg_left h1.2.1 (by omega)
  have m0 : 0 ≤ clampI y 0 (ph - 1) * pw := Int.mul_nonneg cy.1 (by omega)
  unfold atN
  omega

theorem iAt_any (pw ph x y : Int) (v : Value) (n : Nat) (b : Nat → Int) (w : World) (h : Sr .i64 w.heap.size w v n b) (hp : pvB pw ph n b = true) :
    Calls Try.prog 48 #[.agg #[.int .i64 pw, .int .i64 ph, v], .int .i64 x, .int .i64 y] w fun e w' => e = .returned (.int .i64 (b (atN pw ph x y))) ∧ Below w.heap.size w w' := by
  have hb := at_bd hp x y
  obtain ⟨hs, hx, hy, hm, hsum, hlt⟩ := hb
  obtain ⟨a, cap, rfl, _, hc⟩ := h
  obtain ⟨g, off, rfl, hg, hcell⟩ := hc (by omega)
  have hbel : Below w.heap.size w (w.alloc (.cells #[.int .i64 pw, .int .i64 ph, .slice (some ⟨g, off, none⟩) n cap] 24)) := (Below.refl _ _).alloc (Nat.le_refl _) _
  have hi := (hbel.cell (p := ⟨g, off + atN pw ph x y, none⟩) hg).trans (hcell _ hlt)
  clear hcell hp
  have e1 : IntKind.i64.wrap (pw - 1) = pw - 1 := IntWalk.i64_in _ (by omega)
  have e2 : IntKind.i64.wrap (ph - 1) = ph - 1 := IntWalk.i64_in _ (by omega)
  have e3 : IntKind.i64.wrap (clampI y 0 (ph - 1) * pw) = clampI y 0 (ph - 1) * pw := IntWalk.i64_in _ (by omega)
  have e4 : IntKind.i64.wrap (clampI y 0 (ph - 1) * pw + clampI x 0 (pw - 1)) = (atN pw ph x y : Int) := by rw [IntWalk.i64_in _ (by omega), hsum]
  have l1 : (0 : Int) ≤ (atN pw ph x y : Int) := by omega
  have l2 : (atN pw ph x y : Int) < n := by omega
  have HP1 : 0 ≤ pw - 1 := by omega
  have HP2 : 0 ≤ ph - 1 := by omega
  clear hsum
  go_enter Try.func48, Try.ntmps48
  go_wp2_with fail
  go_quiet ((go_at_call 60; exact quietL (clamp_any _ _ _ _ (by assumption))))
  go_wp2_with fail
  go_ret
  exact ⟨rfl, below_drewN hbel _⟩

theorem sAt_any (pw ph x y : Int) (v : Value) (n : Nat) (b : Nat → Int) (w : World) (h : Sr .i64 w.heap.size w v n b) (hp : pvB pw ph n b = true) :
    Calls Try.prog 47 #[.agg #[.int .i64 pw, .int .i64 ph, v], .int .i64 x, .int .i64 y] w fun e w' => e = .returned (.int .i64 (b (atN pw ph x y))) ∧ Below w.heap.size w w' := by
  have hb := at_bd hp x y
  obtain ⟨hs, hx, hy, hm, hsum, hlt⟩ := hb
  obtain ⟨a, cap, rfl, _, hc⟩ := h
  obtain ⟨g, off, rfl, hg, hcell⟩ := hc (by omega)
  have hbel : Below w.heap.size w (w.alloc (.cells #[.int .i64 pw, .int .i64 ph, .slice (some ⟨g, off, none⟩) n cap] 24)) := (Below.refl _ _).alloc (Nat.le_refl _) _
  have hi := (hbel.cell (p := ⟨g, off + atN pw ph x y, none⟩) hg).trans (hcell _ hlt)
  clear hcell hp
  have e1 : IntKind.i64.wrap (pw - 1) = pw - 1 := IntWalk.i64_in _ (by omega)
  have e2 : IntKind.i64.wrap (ph - 1) = ph - 1 := IntWalk.i64_in _ (by omega)
  have e3 : IntKind.i64.wrap (clampI y 0 (ph - 1) * pw) = clampI y 0 (ph - 1) * pw := IntWalk.i64_in _ (by omega)
  have e4 : IntKind.i64.wrap (clampI y 0 (ph - 1) * pw + clampI x 0 (pw - 1)) = (atN pw ph x y : Int) := by rw [IntWalk.i64_in _ (by omega), hsum]
  have l1 : (0 : Int) ≤ (atN pw ph x y : Int) := by omega
  have l2 : (atN pw ph x y : Int) < n := by omega
  have HP1 : 0 ≤ pw - 1 := by omega
  have HP2 : 0 ≤ ph - 1 := by omega
  clear hsum
  go_enter Try.func47, Try.ntmps47
  go_wp2_with fail
  go_quiet ((go_at_call 59; exact quietL (l1Clip_any _ _ _ _ (by assumption))))
  go_wp2_with fail
  go_ret
  exact ⟨rfl, below_drewN hbel _⟩
end Go.Proofs.Ytjogdkeoadkbnaa
