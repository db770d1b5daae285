/- The walk of the law on samples. -/
import Derived.Test.YtinmfeflbaeodaaPicLaws6
import Derived.Test.YtinmfeflbaeodaaDrawPic4
import Derived.Deep.Cut
namespace Go.Proofs.Ytinmfeflbaeodaa
open Go.RowKit

theorem samp_at {pw ph : Int} {k : Nat} {f : Nat → Int} (h : pvB pw ph k f = true) (W ci cj : Nat) (x y : Int) (hW : pw = W) (h1 : clampI x 0 (pw - 1) = ci) (h2 : clampI y 0 (ph - 1) = cj) : sampI pw ph k f x y = f (cj * W + ci) := by
  unfold sampI atN
  rw [if_pos h, h1, h2, hW]
  congr 1
theorem sn_cell {lo hi gp off cp n : Nat} {w : World} {f : Nat → Int} (h : Sn .i64 lo hi w (.slice (some ⟨gp, off, none⟩) n cp) n f) {i : Nat} (hi : i < n) : w.cell? ⟨gp, off + i, none⟩ = some (.int .i64 (f i)) := by
  obtain ⟨a', cap', e', hn', hcl⟩ := h
  obtain ⟨g', off', e'', h1, h2, hcl⟩ := hcl (by omega)
  cases e'
  cases e''
  exact (hcl i hi).1
theorem row_bd {W H i j k : Nat} (hk : k = W * H) (hi : i < W) (hj : j < H) : j * W + i < k := by rw [hk]; exact idx_lt hi hj
set_option maxRecDepth 100000 in
set_option maxHeartbeats 4000000 in
theorem FnSampleAt_walk (a : Option Addr) (len cap : Nat) (zs : List Int) (w : World) (h : IsRow .u8 w a len cap zs) :
    Calls Try.prog 6 #[.slice a len cap] w fun e w' => e = .returned (.bool true) ∧ Below w.heap.size w w' := by
  obtain ⟨hs, hm⟩ := h.bytes
  unfold maxLen at hm
  clear h
  by_cases hl : 1048576 < len
  · clear hs
    go_enter Try.func6, Try.ntmps6
    go_wp2
    go_ret
    exact ⟨rfl, Below.refl _ _⟩
  · have HS := Lib.hid hs; clear hs
    have HB := Lib.hid (Below.refl w.heap.size w)
    go_enter Try.func6, Try.ntmps6
    go_wp2_with fail
    refine (DrawSampleAt_any _ len _ _ HS.out (by omega)).mono ?_; rintro e w1 ⟨pw, ph, u, k, f, dx, dy, rfl, hS, hk, hdx, hdy, hw1⟩
    have zw1 : w.heap.size ≤ w1.heap.size := hw1.size
    replace HB := Lib.hid (HB.out.trans (hw1.mono (by omega)))
    clear hw1
    have hu1 := hS.one
    have SP := Lib.hid hS; clear hS
    have HN := Lib.hid (show PicB (w1.alloc (.cells #[.int .i64 0, .int .i64 0, .slice none 0 0] 25)) w1.heap.size 0 0 (.slice none 0 0) from PicB.new' rfl)
    obtain ⟨w2, hw⟩ : ∃ x, x = (w1.alloc (.cells #[.int .i64 0, .int .i64 0, .slice none 0 0] 25)).setRow w1.heap.size #[.int .i64 pw, .int .i64 ph, u] := ⟨_, rfl⟩
    have hV : PicB w2 w1.heap.size pw ph (u) := by rw [hw]; exact HN.out.setRow _ _ _
    have hw2 : Below w1.heap.size w1 w2 := by rw [hw]; exact below_setRow ((Below.refl _ _).alloc (Nat.le_refl _) _) (Nat.le_refl _) _
    have zw2 : w1.heap.size < w2.heap.size := by rw [hw]; simp
    have HW := Lib.hid hw; clear hw
    replace HB := Lib.hid (HB.out.trans (hw2.mono (by omega)))
    replace SP := Lib.hid (SP.out.below hw2 (by omega))
    have Vp := Lib.hid hV; clear hV hw2
    go_wp2_with (first | (refine storeP w1.heap.size HN.out hu1 rfl rfl rfl rfl ?_; rw [← HW.out]) | refine loadP (w1.heap.size) Vp.out rfl rfl rfl ?_)
    clear HW HN
    obtain ⟨sv, hsv⟩ : ∃ sv, sampI pw ph k f dx dy = sv := ⟨_, rfl⟩
    have HSV := Lib.hid hsv; clear hsv
    have es : (sv != sv) = false := by simp
    refine (iSampleAt_any pw ph dx dy u k f _ (SP.out.sr.mono (by omega)) (by omega)).mono ?_; rintro e w3 ⟨rfl, hw3⟩
    have zw3 : w2.heap.size ≤ w3.heap.size := hw3.size
    replace HB := Lib.hid (HB.out.trans (hw3.mono (by omega)))
    replace SP := Lib.hid (SP.out.below hw3 (by omega))
    replace Vp := Lib.hid (Vp.out.below hw3 (by omega))
    clear hw3
    rw [HSV.out]
    go_wp2_with (first | refine loadP (w1.heap.size) Vp.out rfl rfl rfl ?_)
    refine (sSampleAt_any pw ph dx dy u k f _ (SP.out.sr.mono (by omega)) (by omega)).mono ?_; rintro e w4 ⟨rfl, hw4⟩
    have zw4 : w3.heap.size ≤ w4.heap.size := hw4.size
    replace HB := Lib.hid (HB.out.trans (hw4.mono (by omega)))
    replace SP := Lib.hid (SP.out.below hw4 (by omega))
    replace Vp := Lib.hid (Vp.out.below hw4 (by omega))
    clear hw4
    rw [HSV.out]
    go_wp2_with (first | refine loadP (w1.heap.size) Vp.out rfl rfl rfl ?_)
    refine (sPictureValid_any pw ph u k f _ (SP.out.sr.mono (by omega)) (by omega)).mono ?_; rintro e w5 ⟨rfl, hw5⟩
    have zw5 : w4.heap.size ≤ w5.heap.size := hw5.size
    replace HB := Lib.hid (HB.out.trans (hw5.mono (by omega)))
    replace SP := Lib.hid (SP.out.below hw5 (by omega))
    replace Vp := Lib.hid (Vp.out.below hw5 (by omega))
    clear hw5
    by_cases hok : pvB pw ph k f = true
    · skip
      rw [hok]
      have HOK := Lib.hid hok; clear hok
      obtain ⟨v1, v2, v3, v4⟩ := pv_size HOK.out
      obtain ⟨W, rfl⟩ := Int.eq_ofNat_of_zero_le (a := pw) (by omega)
      obtain ⟨H, rfl⟩ := Int.eq_ofNat_of_zero_le (a := ph) (by omega)
      have hkW : k = W * H := by
        have h3 := (pvB_out HOK.out).2.2.1
        have : ((W : Int) * (H : Int)) = ((W * H : Nat) : Int) := by simp
        omega
      obtain ⟨ci, hci⟩ : ∃ ci : Nat, clampI dx 0 ((W : Int) - 1) = ci := ⟨(clampI dx 0 ((W : Int) - 1)).toNat, by have := clamp_bd dx ((W : Int) - 1) (by omega); omega⟩
      obtain ⟨cj, hcj⟩ : ∃ cj : Nat, clampI dy 0 ((H : Int) - 1) = cj := ⟨(clampI dy 0 ((H : Int) - 1)).toNat, by have := clamp_bd dy ((H : Int) - 1) (by omega); omega⟩
      have hi1 : ci < W := by have := clamp_bd dx ((W : Int) - 1) (by omega); omega
      have hj1 : cj < H := by have := clamp_bd dy ((H : Int) - 1) (by omega); omega
      have HK := Lib.hid hkW; clear hkW
      have c0 := Vp.out.c0; have c1 := Vp.out.c1; have c2 := Vp.out.c2
      go_upto_region 11 with fail
      have ei : (if 0 < (if dx < (W : Int) - 1 then dx else (W : Int) - 1) then (if dx < (W : Int) - 1 then dx else (W : Int) - 1) else 0) = (ci : Int) := by have := hci; unfold clampI at this; omega
      have ej : (if 0 < (if dy < (H : Int) - 1 then dy else (H : Int) - 1) then (if dy < (H : Int) - 1 then dy else (H : Int) - 1) else 0) = (cj : Int) := by have := hcj; unfold clampI at this; omega
      rw [ei, ej]
      clear ei ej
      generalize (if dx < (W : Int) - 1 then dx else (W : Int) - 1) = mi
      generalize (if dy < (H : Int) - 1 then dy else (H : Int) - 1) = mj
      have SP1 := SP.out
      obtain ⟨a0, cp, rfl, hcap, hcl⟩ := SP1
      obtain ⟨gp, off, rfl, _, hgp, hcl⟩ := hcl (by omega)
      clear hcl hu1
      have b1 := row_bd HK.out hi1 hj1
      have b2 := row_bd (i := 0) HK.out (by omega) hj1
      have b3 := row_bd (i := W - 1) HK.out (by omega) hj1
      have b4 := row_bd (j := H - 1) HK.out hi1 (by omega)
      have q1 := samp_at HOK.out W ci cj dx dy rfl hci hcj
      have q2 := samp_at HOK.out W 0 cj (-1) (cj : Int) rfl (by unfold clampI; omega) (by unfold clampI; omega)
      have q3 := samp_at HOK.out W (W - 1) cj (W : Int) (cj : Int) rfl (by unfold clampI; omega) (by unfold clampI; omega)
      have q4 := samp_at HOK.out W ci (H - 1) (ci : Int) (H : Int) rfl (by unfold clampI; omega) (by unfold clampI; omega)
      have m1 : ((cj : Int) * (W : Int)) = ((cj * W : Nat) : Int) := by simp
      have m2 : (((H - 1 : Nat) : Int) * (W : Int)) = (((H - 1) * W : Nat) : Int) := by simp
      obtain ⟨h1, hh1⟩ : ∃ h1, H - 1 = h1 := ⟨_, rfl⟩
      rw [hh1] at b4 q4 m2
      obtain ⟨r, hr⟩ : ∃ r, cj * W = r := ⟨_, rfl⟩
      obtain ⟨q, hq⟩ : ∃ q, h1 * W = q := ⟨_, rfl⟩
      rw [hr] at b1 b2 b3 q1 q2 q3 m1
      rw [hq] at b4 q4 m2
      rw [Nat.add_zero] at b2 q2
      obtain ⟨pa, hpa⟩ : ∃ z, r + ci = z := ⟨_, rfl⟩
      obtain ⟨pb, hpb⟩ : ∃ z, r + (W - 1) = z := ⟨_, rfl⟩
      obtain ⟨pd, hpd⟩ : ∃ z, q + ci = z := ⟨_, rfl⟩
      obtain ⟨rz, hrw⟩ : ∃ z, r + W = z := ⟨_, rfl⟩
      rw [hpa] at b1 q1
      rw [hpb] at b3 q3
      rw [hpd] at b4 q4
      rw [HSV.out] at q1
      have e1 : IntKind.i64.wrap ((cj : Int) * (W : Int)) = (r : Int) := by rw [IntWalk.i64_in _ (by omega), m1]
      have e2 : IntKind.i64.wrap ((r : Int) + (ci : Int)) = (pa : Int) := by rw [IntWalk.i64_in _ (by omega)]; omega
      have e3 : IntKind.i64.wrap ((r : Int) + (W : Int)) = (rz : Int) := by rw [IntWalk.i64_in _ (by omega)]; omega
      have e4 : IntKind.i64.wrap ((rz : Int) - 1) = (pb : Int) := by rw [IntWalk.i64_in _ (by omega)]; omega
      have e5 : IntKind.i64.wrap ((H : Int) - 1) = (h1 : Int) := by rw [IntWalk.i64_in _ (by omega)]; omega
      have e6 : IntKind.i64.wrap ((h1 : Int) * (W : Int)) = (q : Int) := by rw [IntWalk.i64_in _ (by omega), m2]
      have e7 : IntKind.i64.wrap ((q : Int) + (ci : Int)) = (pd : Int) := by rw [IntWalk.i64_in _ (by omega)]; omega
      have npa : (pa : Int) < k := by omega
      have opa : (0 : Int) ≤ (pa : Int) := by omega
      have nr : (r : Int) < k := by omega
      have or : (0 : Int) ≤ (r : Int) := by omega
      have npb : (pb : Int) < k := by omega
      have opb : (0 : Int) ≤ (pb : Int) := by omega
      have npd : (pd : Int) < k := by omega
      have opd : (0 : Int) ≤ (pd : Int) := by omega
      have HQ2 := Lib.hid q2; have HQ3 := Lib.hid q3; have HQ4 := Lib.hid q4
      have Hp := Lib.hid hpa; have HB1 := Lib.hid b1; have HB2 := Lib.hid b2; have HB3 := Lib.hid b3; have HB4 := Lib.hid b4
      have HQ1 := Lib.hid q1
      clear q1 q2 q3 q4 m1 m2 hr hq hpa hpb hpd hrw hh1 b1 b2 b3 b4 hci hcj
      clear c0 c1 c2
      have es0 : (sv == sv) = true := by simp
      obtain ⟨s1, hs1⟩ : ∃ z, f r = z := ⟨_, rfl⟩
      have Hs1 := Lib.hid hs1; clear hs1
      have es1 : (s1 == s1) = true := by simp
      obtain ⟨s2, hs2⟩ : ∃ z, f pb = z := ⟨_, rfl⟩
      have Hs2 := Lib.hid hs2; clear hs2
      have es2 : (s2 == s2) = true := by simp
      obtain ⟨s3, hs3⟩ : ∃ z, f pd = z := ⟨_, rfl⟩
      have Hs3 := Lib.hid hs3; clear hs3
      have es3 : (s3 == s3) = true := by simp
      refine wp_region_log 66 (fun _ w' => Below w5.heap.size w5 w') (fun w1 w2 => Below w1.heap.size w1 w2) [fun _ v => v = .int .i64 sv, fun _ v => v = .pointer (some ⟨w1.heap.size, 2, none⟩), fun _ v => v = .slice (some ⟨gp, off, none⟩) k cp, fun _ v => v = .int .i64 (cj : Int), fun _ v => v = .pointer (some ⟨w1.heap.size, 0, none⟩), fun _ v => v = .int .i64 (W : Int), fun _ v => v = .int .i64 (r : Int), fun _ v => v = .int .i64 (ci : Int), fun _ v => v = .int .i64 (pa : Int), fun _ v => v = .pointer (some ⟨gp, off + pa, none⟩), fun _ v => v = .int .i64 sv, fun _ v => v = .bool true, fun _ v => v = .bool true, fun _ v => v = .agg #[.int .i64 (W : Int), .int .i64 (H : Int), .slice (some ⟨gp, off, none⟩) k cp], fun _ v => v = .int .i64 (cj : Int), fun _ v => v = .int .i64 s1, fun _ v => v = .pointer (some ⟨w1.heap.size, 2, none⟩), fun _ v => v = .slice (some ⟨gp, off, none⟩) k cp, fun _ v => v = .int .i64 (cj : Int), fun _ v => v = .pointer (some ⟨w1.heap.size, 0, none⟩), fun _ v => v = .int .i64 (W : Int), fun _ v => v = .int .i64 (r : Int), fun _ v => v = .pointer (some ⟨gp, off + r, none⟩), fun _ v => v = .int .i64 s1, fun _ v => v = .bool true, fun _ v => v = .bool true, fun _ v => v = .bool true, fun _ v => v = .agg #[.int .i64 (W : Int), .int .i64 (H : Int), .slice (some ⟨gp, off, none⟩) k cp], fun _ v => v = .pointer (some ⟨w1.heap.size, 0, none⟩), fun _ v => v = .int .i64 (W : Int), fun _ v => v = .int .i64 (cj : Int), fun _ v => v = .int .i64 s2, fun _ v => v = .pointer (some ⟨w1.heap.size, 2, none⟩), fun _ v => v = .slice (some ⟨gp, off, none⟩) k cp, fun _ v => v = .int .i64 (cj : Int), fun _ v => v = .pointer (some ⟨w1.heap.size, 0, none⟩), fun _ v => v = .int .i64 (W : Int), fun _ v => v = .int .i64 (r : Int), fun _ v => v = .pointer (some ⟨w1.heap.size, 0, none⟩), fun _ v => v = .int .i64 (W : Int), fun _ v => v = .int .i64 (rz : Int), fun _ v => v = .int .i64 (pb : Int), fun _ v => v = .pointer (some ⟨gp, off + pb, none⟩), fun _ v => v = .int .i64 s2, fun _ v => v = .bool true, fun _ v => v = .bool true, fun _ v => v = .bool true, fun _ v => v = .agg #[.int .i64 (W : Int), .int .i64 (H : Int), .slice (some ⟨gp, off, none⟩) k cp], fun _ v => v = .int .i64 (ci : Int), fun _ v => v = .pointer (some ⟨w1.heap.size, 1, none⟩), fun _ v => v = .int .i64 (H : Int), fun _ v => v = .int .i64 s3, fun _ v => v = .pointer (some ⟨w1.heap.size, 2, none⟩), fun _ v => v = .slice (some ⟨gp, off, none⟩) k cp, fun _ v => v = .pointer (some ⟨w1.heap.size, 1, none⟩), fun _ v => v = .int .i64 (H : Int), fun _ v => v = .int .i64 (h1 : Int), fun _ v => v = .pointer (some ⟨w1.heap.size, 0, none⟩), fun _ v => v = .int .i64 (W : Int), fun _ v => v = .int .i64 (q : Int), fun _ v => v = .int .i64 (ci : Int), fun _ v => v = .int .i64 (pd : Int), fun _ v => v = .pointer (some ⟨gp, off + pd, none⟩), fun _ v => v = .int .i64 s3, fun _ v => v = .bool true, fun _ v => v = .bool true] (by kernel_rfl) (by kernel_rfl) (Below.refl _ _).drew ?_ ?_ ?_
      · intro V hV wq1 wq2 v hv hr
        simp only [List.mem_cons, List.not_mem_nil, or_false] at hV
        rcases hV with rfl | rfl | rfl | rfl | rfl | rfl | rfl | rfl | rfl | rfl | rfl | rfl | rfl | rfl | rfl | rfl | rfl | rfl | rfl | rfl | rfl | rfl | rfl | rfl | rfl | rfl | rfl | rfl | rfl | rfl | rfl | rfl | rfl | rfl | rfl | rfl | rfl | rfl | rfl | rfl | rfl | rfl | rfl | rfl | rfl | rfl | rfl | rfl | rfl | rfl | rfl | rfl | rfl | rfl | rfl | rfl | rfl | rfl | rfl | rfl | rfl | rfl | rfl | rfl | rfl | rfl
        · exact hv
        · exact hv
        · exact hv
        · exact hv
        · exact hv
        · exact hv
        · exact hv
        · exact hv
        · exact hv
        · exact hv
        · exact hv
        · exact hv
        · exact hv
        · exact hv
        · exact hv
        · exact hv
        · exact hv
        · exact hv
        · exact hv
        · exact hv
        · exact hv
        · exact hv
        · exact hv
        · exact hv
        · exact hv
        · exact hv
        · exact hv
        · exact hv
        · exact hv
        · exact hv
        · exact hv
        · exact hv
        · exact hv
        · exact hv
        · exact hv
        · exact hv
        · exact hv
        · exact hv
        · exact hv
        · exact hv
        · exact hv
        · exact hv
        · exact hv
        · exact hv
        · exact hv
        · exact hv
        · exact hv
        · exact hv
        · exact hv
        · exact hv
        · exact hv
        · exact hv
        · exact hv
        · exact hv
        · exact hv
        · exact hv
        · exact hv
        · exact hv
        · exact hv
        · exact hv
        · exact hv
        · exact hv
        · exact hv
        · exact hv
        · exact hv
        · exact hv
      · refine ⟨?_, ?_, ?_, ?_, ?_, ?_, ?_, ?_, ?_, ?_, ?_, ?_, ?_, ?_, ?_, ?_, ?_, ?_, ?_, ?_, ?_, ?_, ?_, ?_, ?_, ?_, ?_, ?_, ?_, ?_, ?_, ?_, ?_, ?_, ?_, ?_, ?_, ?_, ?_, ?_, ?_, ?_, ?_, ?_, ?_, ?_, ?_, ?_, ?_, ?_, ?_, ?_, ?_, ?_, ?_, ?_, ?_, ?_, ?_, ?_, ?_, ?_, ?_, ?_, ?_, ?_, trivial⟩
        · intro vs k1 wq1 hk1 hS1 hd fb hb K hK
          replace hb : fb = _ := hb
          subst hb
          refine ifW_yes (by kernel_rfl) ?_
          go_simp
          exact hK.out _ _ hS1 (Below.refl _ _) rfl
        · intro vs k1 wq1 hk1 hS1 hd fb hb K hK
          replace hb : fb = _ := hb
          subst hb
          refine ifW_yes (by kernel_rfl) ?_
          go_simp
          exact hK.out _ _ hS1 (Below.refl _ _) rfl
        · intro vs k1 wq1 hk1 hS1 hd fb hb K hK
          obtain ⟨d1, _⟩ := hd
          replace hb : fb = Act.put (_) (some 49) (vs 1) := hb
          have e1 : vs 1 = .pointer (some ⟨w1.heap.size, 2, none⟩) := d1
          rw [e1] at hb; clear e1 d1
          subst hb
          refine ifW_yes (by kernel_rfl) ?_
          have c := (Vp.out.below hS1 (by omega)).c2
          go_simp
          exact hK.out _ _ hS1 (Below.refl _ _) rfl
        · intro vs k1 wq1 hk1 hS1 hd fb hb K hK
          replace hb : fb = _ := hb
          subst hb
          refine ifW_yes (by kernel_rfl) ?_
          go_simp
          exact hK.out _ _ hS1 (Below.refl _ _) rfl
        · intro vs k1 wq1 hk1 hS1 hd fb hb K hK
          replace hb : fb = _ := hb
          subst hb
          refine ifW_yes (by kernel_rfl) ?_
          go_simp
          exact hK.out _ _ hS1 (Below.refl _ _) rfl
        · intro vs k1 wq1 hk1 hS1 hd fb hb K hK
          obtain ⟨d4, _⟩ := hd
          replace hb : fb = Act.put (_) (some 52) (vs 4) := hb
          have e4 : vs 4 = .pointer (some ⟨w1.heap.size, 0, none⟩) := d4
          rw [e4] at hb; clear e4 d4
          subst hb
          refine ifW_yes (by kernel_rfl) ?_
          have c := (Vp.out.below hS1 (by omega)).c0
          go_simp
          exact hK.out _ _ hS1 (Below.refl _ _) rfl
        · intro vs k1 wq1 hk1 hS1 hd fb hb K hK
          obtain ⟨d3, d5, _⟩ := hd
          replace hb : fb = Act.put (Act.put (_) (some 51) (vs 3)) (some 53) (vs 5) := hb
          have e3 : vs 3 = .int .i64 (cj : Int) := d3
          rw [e3] at hb; clear e3 d3
          have e5 : vs 5 = .int .i64 (W : Int) := d5
          rw [e5] at hb; clear e5 d5
          subst hb
          refine ifW_yes (by kernel_rfl) ?_
          go_simp
          exact hK.out _ _ hS1 (Below.refl _ _) rfl
        · intro vs k1 wq1 hk1 hS1 hd fb hb K hK
          replace hb : fb = _ := hb
          subst hb
          refine ifW_yes (by kernel_rfl) ?_
          go_simp
          exact hK.out _ _ hS1 (Below.refl _ _) rfl
        · intro vs k1 wq1 hk1 hS1 hd fb hb K hK
          obtain ⟨d6, d7, _⟩ := hd
          replace hb : fb = Act.put (Act.put (_) (some 54) (vs 6)) (some 55) (vs 7) := hb
          have e6 : vs 6 = .int .i64 (r : Int) := d6
          rw [e6] at hb; clear e6 d6
          have e7 : vs 7 = .int .i64 (ci : Int) := d7
          rw [e7] at hb; clear e7 d7
          subst hb
          refine ifW_yes (by kernel_rfl) ?_
          go_simp
          exact hK.out _ _ hS1 (Below.refl _ _) rfl
        · intro vs k1 wq1 hk1 hS1 hd fb hb K hK
          obtain ⟨d2, d8, _⟩ := hd
          replace hb : fb = Act.put (Act.put (_) (some 50) (vs 2)) (some 56) (vs 8) := hb
          have e2 : vs 2 = .slice (some ⟨gp, off, none⟩) k cp := d2
          rw [e2] at hb; clear e2 d2
          have e8 : vs 8 = .int .i64 (pa : Int) := d8
          rw [e8] at hb; clear e8 d8
          subst hb
          refine ifW_yes (by kernel_rfl) ?_
          go_simp
          exact hK.out _ _ hS1 (Below.refl _ _) rfl
        · intro vs k1 wq1 hk1 hS1 hd fb hb K hK
          obtain ⟨d9, _⟩ := hd
          replace hb : fb = Act.put (_) (some 57) (vs 9) := hb
          have e9 : vs 9 = .pointer (some ⟨gp, off + pa, none⟩) := d9
          rw [e9] at hb; clear e9 d9
          subst hb
          refine ifW_yes (by kernel_rfl) ?_
          have cx := sn_cell (SP.out.below hS1 (by omega)) HB1.out
          rw [← HQ1.out] at cx
          go_simp
          exact hK.out _ _ hS1 (Below.refl _ _) rfl
        · intro vs k1 wq1 hk1 hS1 hd fb hb K hK
          obtain ⟨d0, d10, _⟩ := hd
          replace hb : fb = Act.put (Act.put (_) (some 48) (vs 0)) (some 58) (vs 10) := hb
          have e0 : vs 0 = .int .i64 sv := d0
          rw [e0] at hb; clear e0 d0
          have e10 : vs 10 = .int .i64 sv := d10
          rw [e10] at hb; clear e10 d10
          subst hb
          refine ifW_yes (by kernel_rfl) ?_
          go_simp
          exact hK.out _ _ hS1 (Below.refl _ _) rfl
        · intro vs k1 wq1 hk1 hS1 hd fb hb K hK
          obtain ⟨d11, _⟩ := hd
          replace hb : fb = Act.put (_) (some 59) (vs 11) := hb
          have e11 : vs 11 = .bool true := d11
          rw [e11] at hb; clear e11 d11
          subst hb
          refine ifW_yes (by kernel_rfl) ?_
          go_simp
          exact hK.out _ _ hS1 (Below.refl _ _) rfl
        · intro vs k1 wq1 hk1 hS1 hd fb hb K hK
          obtain ⟨d12, _⟩ := hd
          replace hb : fb = Act.put (_) (some 60) (vs 12) := hb
          have e12 : vs 12 = .bool true := d12
          rw [e12] at hb; clear e12 d12
          subst hb
          refine ifW_yes (by kernel_rfl) ?_
          refine wp_load_row _ _ rfl (w1.heap.size) rfl _ _ (0, 0) _ (Vp.out.below hS1 (by omega)) Try.underlying25 rfl (infoP _ _ _) ?_
          exact hK.out _ _ hS1 (Below.refl _ _) rfl
        · intro vs k1 wq1 hk1 hS1 hd fb hb K hK
          obtain ⟨d12, _⟩ := hd
          replace hb : fb = Act.put (_) (some 60) (vs 12) := hb
          have e12 : vs 12 = .bool true := d12
          rw [e12] at hb; clear e12 d12
          subst hb
          refine ifW_yes (by kernel_rfl) ?_
          go_simp
          exact hK.out _ _ hS1 (Below.refl _ _) rfl
        · intro vs k1 wq1 hk1 hS1 hd fb hb K hK
          obtain ⟨d13, d14, d12, _, _⟩ := hd
          replace hb : fb = Act.put (Act.put (Act.put (Act.put (_) (some 61) (vs 13)) (some 62) (vs 14)) (some 60) (vs 12)) (some 60) (vs 12) := hb
          have e13 : vs 13 = .agg #[.int .i64 (W : Int), .int .i64 (H : Int), .slice (some ⟨gp, off, none⟩) k cp] := d13
          rw [e13] at hb; clear e13 d13
          have e14 : vs 14 = .int .i64 (cj : Int) := d14
          rw [e14] at hb; clear e14 d14
          have e12 : vs 12 = .bool true := d12
          rw [e12] at hb; clear e12 d12
          subst hb
          refine ifW_yes (by kernel_rfl) ?_
          have hz1 := hS1.size
          go_simp
          refine (iSampleAt_any (W : Int) (H : Int) (-1) (cj : Int) _ k f _ ((SP.out.below hS1 (by omega)).sr.mono (by omega)) (by omega)).mono ?_; rintro e wq2 ⟨rfl, hb2⟩
          rw [HQ2.out, Hs1.out]
          exact hK.out _ _ (hS1.trans (hb2.mono (by omega))) hb2 rfl
        · intro vs k1 wq1 hk1 hS1 hd fb hb K hK
          obtain ⟨d12, _⟩ := hd
          replace hb : fb = Act.put (_) (some 60) (vs 12) := hb
          have e12 : vs 12 = .bool true := d12
          rw [e12] at hb; clear e12 d12
          subst hb
          refine ifW_yes (by kernel_rfl) ?_
          go_simp
          exact hK.out _ _ hS1 (Below.refl _ _) rfl
        · intro vs k1 wq1 hk1 hS1 hd fb hb K hK
          obtain ⟨d16, d12, _⟩ := hd
          replace hb : fb = Act.put (Act.put (_) (some 64) (vs 16)) (some 60) (vs 12) := hb
          have e16 : vs 16 = .pointer (some ⟨w1.heap.size, 2, none⟩) := d16
          rw [e16] at hb; clear e16 d16
          have e12 : vs 12 = .bool true := d12
          rw [e12] at hb; clear e12 d12
          subst hb
          refine ifW_yes (by kernel_rfl) ?_
          have c := (Vp.out.below hS1 (by omega)).c2
          go_simp
          exact hK.out _ _ hS1 (Below.refl _ _) rfl
        · intro vs k1 wq1 hk1 hS1 hd fb hb K hK
          obtain ⟨d12, _⟩ := hd
          replace hb : fb = Act.put (_) (some 60) (vs 12) := hb
          have e12 : vs 12 = .bool true := d12
          rw [e12] at hb; clear e12 d12
          subst hb
          refine ifW_yes (by kernel_rfl) ?_
          go_simp
          exact hK.out _ _ hS1 (Below.refl _ _) rfl
        · intro vs k1 wq1 hk1 hS1 hd fb hb K hK
          obtain ⟨d12, _⟩ := hd
          replace hb : fb = Act.put (_) (some 60) (vs 12) := hb
          have e12 : vs 12 = .bool true := d12
          rw [e12] at hb; clear e12 d12
          subst hb
          refine ifW_yes (by kernel_rfl) ?_
          go_simp
          exact hK.out _ _ hS1 (Below.refl _ _) rfl
        · intro vs k1 wq1 hk1 hS1 hd fb hb K hK
          obtain ⟨d19, d12, _⟩ := hd
          replace hb : fb = Act.put (Act.put (_) (some 67) (vs 19)) (some 60) (vs 12) := hb
          have e19 : vs 19 = .pointer (some ⟨w1.heap.size, 0, none⟩) := d19
          rw [e19] at hb; clear e19 d19
          have e12 : vs 12 = .bool true := d12
          rw [e12] at hb; clear e12 d12
          subst hb
          refine ifW_yes (by kernel_rfl) ?_
          have c := (Vp.out.below hS1 (by omega)).c0
          go_simp
          exact hK.out _ _ hS1 (Below.refl _ _) rfl
        · intro vs k1 wq1 hk1 hS1 hd fb hb K hK
          obtain ⟨d18, d20, d12, _⟩ := hd
          replace hb : fb = Act.put (Act.put (Act.put (_) (some 66) (vs 18)) (some 68) (vs 20)) (some 60) (vs 12) := hb
          have e18 : vs 18 = .int .i64 (cj : Int) := d18
          rw [e18] at hb; clear e18 d18
          have e20 : vs 20 = .int .i64 (W : Int) := d20
          rw [e20] at hb; clear e20 d20
          have e12 : vs 12 = .bool true := d12
          rw [e12] at hb; clear e12 d12
          subst hb
          refine ifW_yes (by kernel_rfl) ?_
          go_simp
          exact hK.out _ _ hS1 (Below.refl _ _) rfl
        · intro vs k1 wq1 hk1 hS1 hd fb hb K hK
          obtain ⟨d17, d21, d12, _⟩ := hd
          replace hb : fb = Act.put (Act.put (Act.put (_) (some 65) (vs 17)) (some 69) (vs 21)) (some 60) (vs 12) := hb
          have e17 : vs 17 = .slice (some ⟨gp, off, none⟩) k cp := d17
          rw [e17] at hb; clear e17 d17
          have e21 : vs 21 = .int .i64 (r : Int) := d21
          rw [e21] at hb; clear e21 d21
          have e12 : vs 12 = .bool true := d12
          rw [e12] at hb; clear e12 d12
          subst hb
          refine ifW_yes (by kernel_rfl) ?_
          go_simp
          exact hK.out _ _ hS1 (Below.refl _ _) rfl
        · intro vs k1 wq1 hk1 hS1 hd fb hb K hK
          obtain ⟨d22, d12, _⟩ := hd
          replace hb : fb = Act.put (Act.put (_) (some 70) (vs 22)) (some 60) (vs 12) := hb
          have e22 : vs 22 = .pointer (some ⟨gp, off + r, none⟩) := d22
          rw [e22] at hb; clear e22 d22
          have e12 : vs 12 = .bool true := d12
          rw [e12] at hb; clear e12 d12
          subst hb
          refine ifW_yes (by kernel_rfl) ?_
          have cx := sn_cell (SP.out.below hS1 (by omega)) HB2.out
          rw [Hs1.out] at cx
          go_simp
          exact hK.out _ _ hS1 (Below.refl _ _) rfl
        · intro vs k1 wq1 hk1 hS1 hd fb hb K hK
          obtain ⟨d15, d23, d12, _⟩ := hd
          replace hb : fb = Act.put (Act.put (Act.put (_) (some 63) (vs 15)) (some 71) (vs 23)) (some 60) (vs 12) := hb
          have e15 : vs 15 = .int .i64 s1 := d15
          rw [e15] at hb; clear e15 d15
          have e23 : vs 23 = .int .i64 s1 := d23
          rw [e23] at hb; clear e23 d23
          have e12 : vs 12 = .bool true := d12
          rw [e12] at hb; clear e12 d12
          subst hb
          refine ifW_yes (by kernel_rfl) ?_
          go_simp
          exact hK.out _ _ hS1 (Below.refl _ _) rfl
        · intro vs k1 wq1 hk1 hS1 hd fb hb K hK
          obtain ⟨d12, d24, _⟩ := hd
          replace hb : fb = Act.put (Act.put (_) (some 60) (vs 12)) (some 72) (vs 24) := hb
          have e12 : vs 12 = .bool true := d12
          rw [e12] at hb; clear e12 d12
          have e24 : vs 24 = .bool true := d24
          rw [e24] at hb; clear e24 d24
          subst hb
          refine ifW_yes (by kernel_rfl) ?_
          go_simp
          exact hK.out _ _ hS1 (Below.refl _ _) rfl
        · intro vs k1 wq1 hk1 hS1 hd fb hb K hK
          obtain ⟨d25, d15, _⟩ := hd
          replace hb : fb = Act.put (Act.put (_) (some 73) (vs 25)) (some 63) (vs 15) := hb
          have e25 : vs 25 = .bool true := d25
          rw [e25] at hb; clear e25 d25
          have e15 : vs 15 = .int .i64 s1 := d15
          rw [e15] at hb; clear e15 d15
          subst hb
          refine ifW_yes (by kernel_rfl) ?_
          go_simp
          exact hK.out _ _ hS1 (Below.refl _ _) rfl
        · intro vs k1 wq1 hk1 hS1 hd fb hb K hK
          obtain ⟨d26, _⟩ := hd
          replace hb : fb = Act.put (_) (some 74) (vs 26) := hb
          have e26 : vs 26 = .bool true := d26
          rw [e26] at hb; clear e26 d26
          subst hb
          refine ifW_yes (by kernel_rfl) ?_
          refine wp_load_row _ _ rfl (w1.heap.size) rfl _ _ (0, 0) _ (Vp.out.below hS1 (by omega)) Try.underlying25 rfl (infoP _ _ _) ?_
          exact hK.out _ _ hS1 (Below.refl _ _) rfl
        · intro vs k1 wq1 hk1 hS1 hd fb hb K hK
          obtain ⟨d26, _⟩ := hd
          replace hb : fb = Act.put (_) (some 74) (vs 26) := hb
          have e26 : vs 26 = .bool true := d26
          rw [e26] at hb; clear e26 d26
          subst hb
          refine ifW_yes (by kernel_rfl) ?_
          go_simp
          exact hK.out _ _ hS1 (Below.refl _ _) rfl
        · intro vs k1 wq1 hk1 hS1 hd fb hb K hK
          obtain ⟨d28, d26, _⟩ := hd
          replace hb : fb = Act.put (Act.put (_) (some 76) (vs 28)) (some 74) (vs 26) := hb
          have e28 : vs 28 = .pointer (some ⟨w1.heap.size, 0, none⟩) := d28
          rw [e28] at hb; clear e28 d28
          have e26 : vs 26 = .bool true := d26
          rw [e26] at hb; clear e26 d26
          subst hb
          refine ifW_yes (by kernel_rfl) ?_
          have c := (Vp.out.below hS1 (by omega)).c0
          go_simp
          exact hK.out _ _ hS1 (Below.refl _ _) rfl
        · intro vs k1 wq1 hk1 hS1 hd fb hb K hK
          obtain ⟨d26, _⟩ := hd
          replace hb : fb = Act.put (_) (some 74) (vs 26) := hb
          have e26 : vs 26 = .bool true := d26
          rw [e26] at hb; clear e26 d26
          subst hb
          refine ifW_yes (by kernel_rfl) ?_
          go_simp
          exact hK.out _ _ hS1 (Below.refl _ _) rfl
        · intro vs k1 wq1 hk1 hS1 hd fb hb K hK
          obtain ⟨d27, d29, d30, d26, _, _⟩ := hd
          replace hb : fb = Act.put (Act.put (Act.put (Act.put (Act.put (_) (some 75) (vs 27)) (some 77) (vs 29)) (some 78) (vs 30)) (some 74) (vs 26)) (some 74) (vs 26) := hb
          have e27 : vs 27 = .agg #[.int .i64 (W : Int), .int .i64 (H : Int), .slice (some ⟨gp, off, none⟩) k cp] := d27
          rw [e27] at hb; clear e27 d27
          have e29 : vs 29 = .int .i64 (W : Int) := d29
          rw [e29] at hb; clear e29 d29
          have e30 : vs 30 = .int .i64 (cj : Int) := d30
          rw [e30] at hb; clear e30 d30
          have e26 : vs 26 = .bool true := d26
          rw [e26] at hb; clear e26 d26
          subst hb
          refine ifW_yes (by kernel_rfl) ?_
          have hz1 := hS1.size
          go_simp
          refine (iSampleAt_any (W : Int) (H : Int) (W : Int) (cj : Int) _ k f _ ((SP.out.below hS1 (by omega)).sr.mono (by omega)) (by omega)).mono ?_; rintro e wq2 ⟨rfl, hb2⟩
          rw [HQ3.out, Hs2.out]
          exact hK.out _ _ (hS1.trans (hb2.mono (by omega))) hb2 rfl
        · intro vs k1 wq1 hk1 hS1 hd fb hb K hK
          obtain ⟨d26, _⟩ := hd
          replace hb : fb = Act.put (_) (some 74) (vs 26) := hb
          have e26 : vs 26 = .bool true := d26
          rw [e26] at hb; clear e26 d26
          subst hb
          refine ifW_yes (by kernel_rfl) ?_
          go_simp
          exact hK.out _ _ hS1 (Below.refl _ _) rfl
        · intro vs k1 wq1 hk1 hS1 hd fb hb K hK
          obtain ⟨d32, d26, _⟩ := hd
          replace hb : fb = Act.put (Act.put (_) (some 80) (vs 32)) (some 74) (vs 26) := hb
          have e32 : vs 32 = .pointer (some ⟨w1.heap.size, 2, none⟩) := d32
          rw [e32] at hb; clear e32 d32
          have e26 : vs 26 = .bool true := d26
          rw [e26] at hb; clear e26 d26
          subst hb
          refine ifW_yes (by kernel_rfl) ?_
          have c := (Vp.out.below hS1 (by omega)).c2
          go_simp
          exact hK.out _ _ hS1 (Below.refl _ _) rfl
        · intro vs k1 wq1 hk1 hS1 hd fb hb K hK
          obtain ⟨d26, _⟩ := hd
          replace hb : fb = Act.put (_) (some 74) (vs 26) := hb
          have e26 : vs 26 = .bool true := d26
          rw [e26] at hb; clear e26 d26
          subst hb
          refine ifW_yes (by kernel_rfl) ?_
          go_simp
          exact hK.out _ _ hS1 (Below.refl _ _) rfl
        · intro vs k1 wq1 hk1 hS1 hd fb hb K hK
          obtain ⟨d26, _⟩ := hd
          replace hb : fb = Act.put (_) (some 74) (vs 26) := hb
          have e26 : vs 26 = .bool true := d26
          rw [e26] at hb; clear e26 d26
          subst hb
          refine ifW_yes (by kernel_rfl) ?_
          go_simp
          exact hK.out _ _ hS1 (Below.refl _ _) rfl
        · intro vs k1 wq1 hk1 hS1 hd fb hb K hK
          obtain ⟨d35, d26, _⟩ := hd
          replace hb : fb = Act.put (Act.put (_) (some 83) (vs 35)) (some 74) (vs 26) := hb
          have e35 : vs 35 = .pointer (some ⟨w1.heap.size, 0, none⟩) := d35
          rw [e35] at hb; clear e35 d35
          have e26 : vs 26 = .bool true := d26
          rw [e26] at hb; clear e26 d26
          subst hb
          refine ifW_yes (by kernel_rfl) ?_
          have c := (Vp.out.below hS1 (by omega)).c0
          go_simp
          exact hK.out _ _ hS1 (Below.refl _ _) rfl
        · intro vs k1 wq1 hk1 hS1 hd fb hb K hK
          obtain ⟨d34, d36, d26, _⟩ := hd
          replace hb : fb = Act.put (Act.put (Act.put (_) (some 82) (vs 34)) (some 84) (vs 36)) (some 74) (vs 26) := hb
          have e34 : vs 34 = .int .i64 (cj : Int) := d34
          rw [e34] at hb; clear e34 d34
          have e36 : vs 36 = .int .i64 (W : Int) := d36
          rw [e36] at hb; clear e36 d36
          have e26 : vs 26 = .bool true := d26
          rw [e26] at hb; clear e26 d26
          subst hb
          refine ifW_yes (by kernel_rfl) ?_
          go_simp
          exact hK.out _ _ hS1 (Below.refl _ _) rfl
        · intro vs k1 wq1 hk1 hS1 hd fb hb K hK
          obtain ⟨d26, _⟩ := hd
          replace hb : fb = Act.put (_) (some 74) (vs 26) := hb
          have e26 : vs 26 = .bool true := d26
          rw [e26] at hb; clear e26 d26
          subst hb
          refine ifW_yes (by kernel_rfl) ?_
          go_simp
          exact hK.out _ _ hS1 (Below.refl _ _) rfl
        · intro vs k1 wq1 hk1 hS1 hd fb hb K hK
          obtain ⟨d38, d26, _⟩ := hd
          replace hb : fb = Act.put (Act.put (_) (some 86) (vs 38)) (some 74) (vs 26) := hb
          have e38 : vs 38 = .pointer (some ⟨w1.heap.size, 0, none⟩) := d38
          rw [e38] at hb; clear e38 d38
          have e26 : vs 26 = .bool true := d26
          rw [e26] at hb; clear e26 d26
          subst hb
          refine ifW_yes (by kernel_rfl) ?_
          have c := (Vp.out.below hS1 (by omega)).c0
          go_simp
          exact hK.out _ _ hS1 (Below.refl _ _) rfl
        · intro vs k1 wq1 hk1 hS1 hd fb hb K hK
          obtain ⟨d37, d39, d26, _⟩ := hd
          replace hb : fb = Act.put (Act.put (Act.put (_) (some 85) (vs 37)) (some 87) (vs 39)) (some 74) (vs 26) := hb
          have e37 : vs 37 = .int .i64 (r : Int) := d37
          rw [e37] at hb; clear e37 d37
          have e39 : vs 39 = .int .i64 (W : Int) := d39
          rw [e39] at hb; clear e39 d39
          have e26 : vs 26 = .bool true := d26
          rw [e26] at hb; clear e26 d26
          subst hb
          refine ifW_yes (by kernel_rfl) ?_
          go_simp
          exact hK.out _ _ hS1 (Below.refl _ _) rfl
        · intro vs k1 wq1 hk1 hS1 hd fb hb K hK
          obtain ⟨d40, d26, _⟩ := hd
          replace hb : fb = Act.put (Act.put (_) (some 88) (vs 40)) (some 74) (vs 26) := hb
          have e40 : vs 40 = .int .i64 (rz : Int) := d40
          rw [e40] at hb; clear e40 d40
          have e26 : vs 26 = .bool true := d26
          rw [e26] at hb; clear e26 d26
          subst hb
          refine ifW_yes (by kernel_rfl) ?_
          go_simp
          exact hK.out _ _ hS1 (Below.refl _ _) rfl
        · intro vs k1 wq1 hk1 hS1 hd fb hb K hK
          obtain ⟨d33, d41, d26, _⟩ := hd
          replace hb : fb = Act.put (Act.put (Act.put (_) (some 81) (vs 33)) (some 89) (vs 41)) (some 74) (vs 26) := hb
          have e33 : vs 33 = .slice (some ⟨gp, off, none⟩) k cp := d33
          rw [e33] at hb; clear e33 d33
          have e41 : vs 41 = .int .i64 (pb : Int) := d41
          rw [e41] at hb; clear e41 d41
          have e26 : vs 26 = .bool true := d26
          rw [e26] at hb; clear e26 d26
          subst hb
          refine ifW_yes (by kernel_rfl) ?_
          go_simp
          exact hK.out _ _ hS1 (Below.refl _ _) rfl
        · intro vs k1 wq1 hk1 hS1 hd fb hb K hK
          obtain ⟨d42, d26, _⟩ := hd
          replace hb : fb = Act.put (Act.put (_) (some 90) (vs 42)) (some 74) (vs 26) := hb
          have e42 : vs 42 = .pointer (some ⟨gp, off + pb, none⟩) := d42
          rw [e42] at hb; clear e42 d42
          have e26 : vs 26 = .bool true := d26
          rw [e26] at hb; clear e26 d26
          subst hb
          refine ifW_yes (by kernel_rfl) ?_
          have cx := sn_cell (SP.out.below hS1 (by omega)) HB3.out
          rw [Hs2.out] at cx
          go_simp
          exact hK.out _ _ hS1 (Below.refl _ _) rfl
        · intro vs k1 wq1 hk1 hS1 hd fb hb K hK
          obtain ⟨d31, d43, d26, _⟩ := hd
          replace hb : fb = Act.put (Act.put (Act.put (_) (some 79) (vs 31)) (some 91) (vs 43)) (some 74) (vs 26) := hb
          have e31 : vs 31 = .int .i64 s2 := d31
          rw [e31] at hb; clear e31 d31
          have e43 : vs 43 = .int .i64 s2 := d43
          rw [e43] at hb; clear e43 d43
          have e26 : vs 26 = .bool true := d26
          rw [e26] at hb; clear e26 d26
          subst hb
          refine ifW_yes (by kernel_rfl) ?_
          go_simp
          exact hK.out _ _ hS1 (Below.refl _ _) rfl
        · intro vs k1 wq1 hk1 hS1 hd fb hb K hK
          obtain ⟨d26, d44, _⟩ := hd
          replace hb : fb = Act.put (Act.put (_) (some 74) (vs 26)) (some 92) (vs 44) := hb
          have e26 : vs 26 = .bool true := d26
          rw [e26] at hb; clear e26 d26
          have e44 : vs 44 = .bool true := d44
          rw [e44] at hb; clear e44 d44
          subst hb
          refine ifW_yes (by kernel_rfl) ?_
          go_simp
          exact hK.out _ _ hS1 (Below.refl _ _) rfl
        · intro vs k1 wq1 hk1 hS1 hd fb hb K hK
          obtain ⟨d45, d31, _⟩ := hd
          replace hb : fb = Act.put (Act.put (_) (some 93) (vs 45)) (some 79) (vs 31) := hb
          have e45 : vs 45 = .bool true := d45
          rw [e45] at hb; clear e45 d45
          have e31 : vs 31 = .int .i64 s2 := d31
          rw [e31] at hb; clear e31 d31
          subst hb
          refine ifW_yes (by kernel_rfl) ?_
          go_simp
          exact hK.out _ _ hS1 (Below.refl _ _) rfl
        · intro vs k1 wq1 hk1 hS1 hd fb hb K hK
          obtain ⟨d46, _⟩ := hd
          replace hb : fb = Act.put (_) (some 94) (vs 46) := hb
          have e46 : vs 46 = .bool true := d46
          rw [e46] at hb; clear e46 d46
          subst hb
          refine ifW_yes (by kernel_rfl) ?_
          refine wp_load_row _ _ rfl (w1.heap.size) rfl _ _ (0, 0) _ (Vp.out.below hS1 (by omega)) Try.underlying25 rfl (infoP _ _ _) ?_
          exact hK.out _ _ hS1 (Below.refl _ _) rfl
        · intro vs k1 wq1 hk1 hS1 hd fb hb K hK
          obtain ⟨d46, _⟩ := hd
          replace hb : fb = Act.put (_) (some 94) (vs 46) := hb
          have e46 : vs 46 = .bool true := d46
          rw [e46] at hb; clear e46 d46
          subst hb
          refine ifW_yes (by kernel_rfl) ?_
          go_simp
          exact hK.out _ _ hS1 (Below.refl _ _) rfl
        · intro vs k1 wq1 hk1 hS1 hd fb hb K hK
          obtain ⟨d46, _⟩ := hd
          replace hb : fb = Act.put (_) (some 94) (vs 46) := hb
          have e46 : vs 46 = .bool true := d46
          rw [e46] at hb; clear e46 d46
          subst hb
          refine ifW_yes (by kernel_rfl) ?_
          go_simp
          exact hK.out _ _ hS1 (Below.refl _ _) rfl
        · intro vs k1 wq1 hk1 hS1 hd fb hb K hK
          obtain ⟨d49, d46, _⟩ := hd
          replace hb : fb = Act.put (Act.put (_) (some 97) (vs 49)) (some 94) (vs 46) := hb
          have e49 : vs 49 = .pointer (some ⟨w1.heap.size, 1, none⟩) := d49
          rw [e49] at hb; clear e49 d49
          have e46 : vs 46 = .bool true := d46
          rw [e46] at hb; clear e46 d46
          subst hb
          refine ifW_yes (by kernel_rfl) ?_
          have c := (Vp.out.below hS1 (by omega)).c1
          go_simp
          exact hK.out _ _ hS1 (Below.refl _ _) rfl
        · intro vs k1 wq1 hk1 hS1 hd fb hb K hK
          obtain ⟨d47, d48, d50, d46, _, _⟩ := hd
          replace hb : fb = Act.put (Act.put (Act.put (Act.put (Act.put (_) (some 95) (vs 47)) (some 96) (vs 48)) (some 98) (vs 50)) (some 94) (vs 46)) (some 94) (vs 46) := hb
          have e47 : vs 47 = .agg #[.int .i64 (W : Int), .int .i64 (H : Int), .slice (some ⟨gp, off, none⟩) k cp] := d47
          rw [e47] at hb; clear e47 d47
          have e48 : vs 48 = .int .i64 (ci : Int) := d48
          rw [e48] at hb; clear e48 d48
          have e50 : vs 50 = .int .i64 (H : Int) := d50
          rw [e50] at hb; clear e50 d50
          have e46 : vs 46 = .bool true := d46
          rw [e46] at hb; clear e46 d46
          subst hb
          refine ifW_yes (by kernel_rfl) ?_
          have hz1 := hS1.size
          go_simp
          refine (iSampleAt_any (W : Int) (H : Int) (ci : Int) (H : Int) _ k f _ ((SP.out.below hS1 (by omega)).sr.mono (by omega)) (by omega)).mono ?_; rintro e wq2 ⟨rfl, hb2⟩
          rw [HQ4.out, Hs3.out]
          exact hK.out _ _ (hS1.trans (hb2.mono (by omega))) hb2 rfl
        · intro vs k1 wq1 hk1 hS1 hd fb hb K hK
          obtain ⟨d46, _⟩ := hd
          replace hb : fb = Act.put (_) (some 94) (vs 46) := hb
          have e46 : vs 46 = .bool true := d46
          rw [e46] at hb; clear e46 d46
          subst hb
          refine ifW_yes (by kernel_rfl) ?_
          go_simp
          exact hK.out _ _ hS1 (Below.refl _ _) rfl
        · intro vs k1 wq1 hk1 hS1 hd fb hb K hK
          obtain ⟨d52, d46, _⟩ := hd
          replace hb : fb = Act.put (Act.put (_) (some 100) (vs 52)) (some 94) (vs 46) := hb
          have e52 : vs 52 = .pointer (some ⟨w1.heap.size, 2, none⟩) := d52
          rw [e52] at hb; clear e52 d52
          have e46 : vs 46 = .bool true := d46
          rw [e46] at hb; clear e46 d46
          subst hb
          refine ifW_yes (by kernel_rfl) ?_
          have c := (Vp.out.below hS1 (by omega)).c2
          go_simp
          exact hK.out _ _ hS1 (Below.refl _ _) rfl
        · intro vs k1 wq1 hk1 hS1 hd fb hb K hK
          obtain ⟨d46, _⟩ := hd
          replace hb : fb = Act.put (_) (some 94) (vs 46) := hb
          have e46 : vs 46 = .bool true := d46
          rw [e46] at hb; clear e46 d46
          subst hb
          refine ifW_yes (by kernel_rfl) ?_
          go_simp
          exact hK.out _ _ hS1 (Below.refl _ _) rfl
        · intro vs k1 wq1 hk1 hS1 hd fb hb K hK
          obtain ⟨d54, d46, _⟩ := hd
          replace hb : fb = Act.put (Act.put (_) (some 102) (vs 54)) (some 94) (vs 46) := hb
          have e54 : vs 54 = .pointer (some ⟨w1.heap.size, 1, none⟩) := d54
          rw [e54] at hb; clear e54 d54
          have e46 : vs 46 = .bool true := d46
          rw [e46] at hb; clear e46 d46
          subst hb
          refine ifW_yes (by kernel_rfl) ?_
          have c := (Vp.out.below hS1 (by omega)).c1
          go_simp
          exact hK.out _ _ hS1 (Below.refl _ _) rfl
        · intro vs k1 wq1 hk1 hS1 hd fb hb K hK
          obtain ⟨d55, d46, _⟩ := hd
          replace hb : fb = Act.put (Act.put (_) (some 103) (vs 55)) (some 94) (vs 46) := hb
          have e55 : vs 55 = .int .i64 (H : Int) := d55
          rw [e55] at hb; clear e55 d55
          have e46 : vs 46 = .bool true := d46
          rw [e46] at hb; clear e46 d46
          subst hb
          refine ifW_yes (by kernel_rfl) ?_
          go_simp
          exact hK.out _ _ hS1 (Below.refl _ _) rfl
        · intro vs k1 wq1 hk1 hS1 hd fb hb K hK
          obtain ⟨d46, _⟩ := hd
          replace hb : fb = Act.put (_) (some 94) (vs 46) := hb
          have e46 : vs 46 = .bool true := d46
          rw [e46] at hb; clear e46 d46
          subst hb
          refine ifW_yes (by kernel_rfl) ?_
          go_simp
          exact hK.out _ _ hS1 (Below.refl _ _) rfl
        · intro vs k1 wq1 hk1 hS1 hd fb hb K hK
          obtain ⟨d57, d46, _⟩ := hd
          replace hb : fb = Act.put (Act.put (_) (some 105) (vs 57)) (some 94) (vs 46) := hb
          have e57 : vs 57 = .pointer (some ⟨w1.heap.size, 0, none⟩) := d57
          rw [e57] at hb; clear e57 d57
          have e46 : vs 46 = .bool true := d46
          rw [e46] at hb; clear e46 d46
          subst hb
          refine ifW_yes (by kernel_rfl) ?_
          have c := (Vp.out.below hS1 (by omega)).c0
          go_simp
          exact hK.out _ _ hS1 (Below.refl _ _) rfl
        · intro vs k1 wq1 hk1 hS1 hd fb hb K hK
          obtain ⟨d56, d58, d46, _⟩ := hd
          replace hb : fb = Act.put (Act.put (Act.put (_) (some 104) (vs 56)) (some 106) (vs 58)) (some 94) (vs 46) := hb
          have e56 : vs 56 = .int .i64 (h1 : Int) := d56
          rw [e56] at hb; clear e56 d56
          have e58 : vs 58 = .int .i64 (W : Int) := d58
          rw [e58] at hb; clear e58 d58
          have e46 : vs 46 = .bool true := d46
          rw [e46] at hb; clear e46 d46
          subst hb
          refine ifW_yes (by kernel_rfl) ?_
          go_simp
          exact hK.out _ _ hS1 (Below.refl _ _) rfl
        · intro vs k1 wq1 hk1 hS1 hd fb hb K hK
          obtain ⟨d46, _⟩ := hd
          replace hb : fb = Act.put (_) (some 94) (vs 46) := hb
          have e46 : vs 46 = .bool true := d46
          rw [e46] at hb; clear e46 d46
          subst hb
          refine ifW_yes (by kernel_rfl) ?_
          go_simp
          exact hK.out _ _ hS1 (Below.refl _ _) rfl
        · intro vs k1 wq1 hk1 hS1 hd fb hb K hK
          obtain ⟨d59, d60, d46, _⟩ := hd
          replace hb : fb = Act.put (Act.put (Act.put (_) (some 107) (vs 59)) (some 108) (vs 60)) (some 94) (vs 46) := hb
          have e59 : vs 59 = .int .i64 (q : Int) := d59
          rw [e59] at hb; clear e59 d59
          have e60 : vs 60 = .int .i64 (ci : Int) := d60
          rw [e60] at hb; clear e60 d60
          have e46 : vs 46 = .bool true := d46
          rw [e46] at hb; clear e46 d46
          subst hb
          refine ifW_yes (by kernel_rfl) ?_
          go_simp
          exact hK.out _ _ hS1 (Below.refl _ _) rfl
        · intro vs k1 wq1 hk1 hS1 hd fb hb K hK
          obtain ⟨d53, d61, d46, _⟩ := hd
          replace hb : fb = Act.put (Act.put (Act.put (_) (some 101) (vs 53)) (some 109) (vs 61)) (some 94) (vs 46) := hb
          have e53 : vs 53 = .slice (some ⟨gp, off, none⟩) k cp := d53
          rw [e53] at hb; clear e53 d53
          have e61 : vs 61 = .int .i64 (pd : Int) := d61
          rw [e61] at hb; clear e61 d61
          have e46 : vs 46 = .bool true := d46
          rw [e46] at hb; clear e46 d46
          subst hb
          refine ifW_yes (by kernel_rfl) ?_
          go_simp
          exact hK.out _ _ hS1 (Below.refl _ _) rfl
        · intro vs k1 wq1 hk1 hS1 hd fb hb K hK
          obtain ⟨d62, d46, _⟩ := hd
          replace hb : fb = Act.put (Act.put (_) (some 110) (vs 62)) (some 94) (vs 46) := hb
          have e62 : vs 62 = .pointer (some ⟨gp, off + pd, none⟩) := d62
          rw [e62] at hb; clear e62 d62
          have e46 : vs 46 = .bool true := d46
          rw [e46] at hb; clear e46 d46
          subst hb
          refine ifW_yes (by kernel_rfl) ?_
          have cx := sn_cell (SP.out.below hS1 (by omega)) HB4.out
          rw [Hs3.out] at cx
          go_simp
          exact hK.out _ _ hS1 (Below.refl _ _) rfl
        · intro vs k1 wq1 hk1 hS1 hd fb hb K hK
          obtain ⟨d51, d63, d46, _⟩ := hd
          replace hb : fb = Act.put (Act.put (Act.put (_) (some 99) (vs 51)) (some 111) (vs 63)) (some 94) (vs 46) := hb
          have e51 : vs 51 = .int .i64 s3 := d51
          rw [e51] at hb; clear e51 d51
          have e63 : vs 63 = .int .i64 s3 := d63
          rw [e63] at hb; clear e63 d63
          have e46 : vs 46 = .bool true := d46
          rw [e46] at hb; clear e46 d46
          subst hb
          refine ifW_yes (by kernel_rfl) ?_
          go_simp
          exact hK.out _ _ hS1 (Below.refl _ _) rfl
        · intro vs k1 wq1 hk1 hS1 hd fb hb K hK
          obtain ⟨d46, d64, _⟩ := hd
          replace hb : fb = Act.put (Act.put (_) (some 94) (vs 46)) (some 112) (vs 64) := hb
          have e46 : vs 46 = .bool true := d46
          rw [e46] at hb; clear e46 d46
          have e64 : vs 64 = .bool true := d64
          rw [e64] at hb; clear e64 d64
          subst hb
          refine ifW_yes (by kernel_rfl) ?_
          go_simp
          exact hK.out _ _ hS1 (Below.refl _ _) rfl
      · intro vs w6 hw6 hd fb hb
        have zw6 : w5.heap.size ≤ w6.heap.size := hw6.size
        replace HB := Lib.hid (HB.out.trans (hw6.mono (by omega)))
        replace SP := Lib.hid (SP.out.below hw6 (by omega))
        replace Vp := Lib.hid (Vp.out.below hw6 (by omega))
        obtain ⟨d0, d1, d2, d3, d4, d5, d6, d7, d8, d9, d10, d11, d12, d13, d14, d15, d16, d17, d18, d19, d20, d21, d22, d23, d24, d25, d26, d27, d28, d29, d30, d31, d32, d33, d34, d35, d36, d37, d38, d39, d40, d41, d42, d43, d44, d45, d46, d47, d48, d49, d50, d51, d52, d53, d54, d55, d56, d57, d58, d59, d60, d61, d62, d63, d64, d65, _⟩ := hd
        replace hb : fb = Act.put (Act.put (Act.put (Act.put (Act.put (Act.put (Act.put (Act.put (Act.put (Act.put (Act.put (Act.put (Act.put (Act.put (Act.put (Act.put (Act.put (Act.put (Act.put (Act.put (Act.put (Act.put (Act.put (Act.put (Act.put (Act.put (Act.put (Act.put (Act.put (Act.put (Act.put (Act.put (Act.put (Act.put (Act.put (Act.put (Act.put (Act.put (Act.put (Act.put (Act.put (Act.put (Act.put (Act.put (Act.put (Act.put (Act.put (Act.put (Act.put (Act.put (Act.put (Act.put (Act.put (Act.put (Act.put (Act.put (Act.put (Act.put (Act.put (Act.put (Act.put (Act.put (Act.put (Act.put (Act.put (Act.put (_) (some 48) (vs 0)) (some 49) (vs 1)) (some 50) (vs 2)) (some 51) (vs 3)) (some 52) (vs 4)) (some 53) (vs 5)) (some 54) (vs 6)) (some 55) (vs 7)) (some 56) (vs 8)) (some 57) (vs 9)) (some 58) (vs 10)) (some 59) (vs 11)) (some 60) (vs 12)) (some 61) (vs 13)) (some 62) (vs 14)) (some 63) (vs 15)) (some 64) (vs 16)) (some 65) (vs 17)) (some 66) (vs 18)) (some 67) (vs 19)) (some 68) (vs 20)) (some 69) (vs 21)) (some 70) (vs 22)) (some 71) (vs 23)) (some 72) (vs 24)) (some 73) (vs 25)) (some 74) (vs 26)) (some 75) (vs 27)) (some 76) (vs 28)) (some 77) (vs 29)) (some 78) (vs 30)) (some 79) (vs 31)) (some 80) (vs 32)) (some 81) (vs 33)) (some 82) (vs 34)) (some 83) (vs 35)) (some 84) (vs 36)) (some 85) (vs 37)) (some 86) (vs 38)) (some 87) (vs 39)) (some 88) (vs 40)) (some 89) (vs 41)) (some 90) (vs 42)) (some 91) (vs 43)) (some 92) (vs 44)) (some 93) (vs 45)) (some 94) (vs 46)) (some 95) (vs 47)) (some 96) (vs 48)) (some 97) (vs 49)) (some 98) (vs 50)) (some 99) (vs 51)) (some 100) (vs 52)) (some 101) (vs 53)) (some 102) (vs 54)) (some 103) (vs 55)) (some 104) (vs 56)) (some 105) (vs 57)) (some 106) (vs 58)) (some 107) (vs 59)) (some 108) (vs 60)) (some 109) (vs 61)) (some 110) (vs 62)) (some 111) (vs 63)) (some 112) (vs 64)) (some 113) (vs 65) := hb
        have e0 : vs 0 = .int .i64 sv := d0
        rw [e0] at hb; clear e0 d0
        have e1 : vs 1 = .pointer (some ⟨w1.heap.size, 2, none⟩) := d1
        rw [e1] at hb; clear e1 d1
        have e2 : vs 2 = .slice (some ⟨gp, off, none⟩) k cp := d2
        rw [e2] at hb; clear e2 d2
        have e3 : vs 3 = .int .i64 (cj : Int) := d3
        rw [e3] at hb; clear e3 d3
        have e4 : vs 4 = .pointer (some ⟨w1.heap.size, 0, none⟩) := d4
        rw [e4] at hb; clear e4 d4
        have e5 : vs 5 = .int .i64 (W : Int) := d5
        rw [e5] at hb; clear e5 d5
        have e6 : vs 6 = .int .i64 (r : Int) := d6
        rw [e6] at hb; clear e6 d6
        have e7 : vs 7 = .int .i64 (ci : Int) := d7
        rw [e7] at hb; clear e7 d7
        have e8 : vs 8 = .int .i64 (pa : Int) := d8
        rw [e8] at hb; clear e8 d8
        have e9 : vs 9 = .pointer (some ⟨gp, off + pa, none⟩) := d9
        rw [e9] at hb; clear e9 d9
        have e10 : vs 10 = .int .i64 sv := d10
        rw [e10] at hb; clear e10 d10
        have e11 : vs 11 = .bool true := d11
        rw [e11] at hb; clear e11 d11
        have e12 : vs 12 = .bool true := d12
        rw [e12] at hb; clear e12 d12
        have e13 : vs 13 = .agg #[.int .i64 (W : Int), .int .i64 (H : Int), .slice (some ⟨gp, off, none⟩) k cp] := d13
        rw [e13] at hb; clear e13 d13
        have e14 : vs 14 = .int .i64 (cj : Int) := d14
        rw [e14] at hb; clear e14 d14
        have e15 : vs 15 = .int .i64 s1 := d15
        rw [e15] at hb; clear e15 d15
        have e16 : vs 16 = .pointer (some ⟨w1.heap.size, 2, none⟩) := d16
        rw [e16] at hb; clear e16 d16
        have e17 : vs 17 = .slice (some ⟨gp, off, none⟩) k cp := d17
        rw [e17] at hb; clear e17 d17
        have e18 : vs 18 = .int .i64 (cj : Int) := d18
        rw [e18] at hb; clear e18 d18
        have e19 : vs 19 = .pointer (some ⟨w1.heap.size, 0, none⟩) := d19
        rw [e19] at hb; clear e19 d19
        have e20 : vs 20 = .int .i64 (W : Int) := d20
        rw [e20] at hb; clear e20 d20
        have e21 : vs 21 = .int .i64 (r : Int) := d21
        rw [e21] at hb; clear e21 d21
        have e22 : vs 22 = .pointer (some ⟨gp, off + r, none⟩) := d22
        rw [e22] at hb; clear e22 d22
        have e23 : vs 23 = .int .i64 s1 := d23
        rw [e23] at hb; clear e23 d23
        have e24 : vs 24 = .bool true := d24
        rw [e24] at hb; clear e24 d24
        have e25 : vs 25 = .bool true := d25
        rw [e25] at hb; clear e25 d25
        have e26 : vs 26 = .bool true := d26
        rw [e26] at hb; clear e26 d26
        have e27 : vs 27 = .agg #[.int .i64 (W : Int), .int .i64 (H : Int), .slice (some ⟨gp, off, none⟩) k cp] := d27
        rw [e27] at hb; clear e27 d27
        have e28 : vs 28 = .pointer (some ⟨w1.heap.size, 0, none⟩) := d28
        rw [e28] at hb; clear e28 d28
        have e29 : vs 29 = .int .i64 (W : Int) := d29
        rw [e29] at hb; clear e29 d29
        have e30 : vs 30 = .int .i64 (cj : Int) := d30
        rw [e30] at hb; clear e30 d30
        have e31 : vs 31 = .int .i64 s2 := d31
        rw [e31] at hb; clear e31 d31
        have e32 : vs 32 = .pointer (some ⟨w1.heap.size, 2, none⟩) := d32
        rw [e32] at hb; clear e32 d32
        have e33 : vs 33 = .slice (some ⟨gp, off, none⟩) k cp := d33
        rw [e33] at hb; clear e33 d33
        have e34 : vs 34 = .int .i64 (cj : Int) := d34
        rw [e34] at hb; clear e34 d34
        have e35 : vs 35 = .pointer (some ⟨w1.heap.size, 0, none⟩) := d35
        rw [e35] at hb; clear e35 d35
        have e36 : vs 36 = .int .i64 (W : Int) := d36
        rw [e36] at hb; clear e36 d36
        have e37 : vs 37 = .int .i64 (r : Int) := d37
        rw [e37] at hb; clear e37 d37
        have e38 : vs 38 = .pointer (some ⟨w1.heap.size, 0, none⟩) := d38
        rw [e38] at hb; clear e38 d38
        have e39 : vs 39 = .int .i64 (W : Int) := d39
        rw [e39] at hb; clear e39 d39
        have e40 : vs 40 = .int .i64 (rz : Int) := d40
        rw [e40] at hb; clear e40 d40
        have e41 : vs 41 = .int .i64 (pb : Int) := d41
        rw [e41] at hb; clear e41 d41
        have e42 : vs 42 = .pointer (some ⟨gp, off + pb, none⟩) := d42
        rw [e42] at hb; clear e42 d42
        have e43 : vs 43 = .int .i64 s2 := d43
        rw [e43] at hb; clear e43 d43
        have e44 : vs 44 = .bool true := d44
        rw [e44] at hb; clear e44 d44
        have e45 : vs 45 = .bool true := d45
        rw [e45] at hb; clear e45 d45
        have e46 : vs 46 = .bool true := d46
        rw [e46] at hb; clear e46 d46
        have e47 : vs 47 = .agg #[.int .i64 (W : Int), .int .i64 (H : Int), .slice (some ⟨gp, off, none⟩) k cp] := d47
        rw [e47] at hb; clear e47 d47
        have e48 : vs 48 = .int .i64 (ci : Int) := d48
        rw [e48] at hb; clear e48 d48
        have e49 : vs 49 = .pointer (some ⟨w1.heap.size, 1, none⟩) := d49
        rw [e49] at hb; clear e49 d49
        have e50 : vs 50 = .int .i64 (H : Int) := d50
        rw [e50] at hb; clear e50 d50
        have e51 : vs 51 = .int .i64 s3 := d51
        rw [e51] at hb; clear e51 d51
        have e52 : vs 52 = .pointer (some ⟨w1.heap.size, 2, none⟩) := d52
        rw [e52] at hb; clear e52 d52
        have e53 : vs 53 = .slice (some ⟨gp, off, none⟩) k cp := d53
        rw [e53] at hb; clear e53 d53
        have e54 : vs 54 = .pointer (some ⟨w1.heap.size, 1, none⟩) := d54
        rw [e54] at hb; clear e54 d54
        have e55 : vs 55 = .int .i64 (H : Int) := d55
        rw [e55] at hb; clear e55 d55
        have e56 : vs 56 = .int .i64 (h1 : Int) := d56
        rw [e56] at hb; clear e56 d56
        have e57 : vs 57 = .pointer (some ⟨w1.heap.size, 0, none⟩) := d57
        rw [e57] at hb; clear e57 d57
        have e58 : vs 58 = .int .i64 (W : Int) := d58
        rw [e58] at hb; clear e58 d58
        have e59 : vs 59 = .int .i64 (q : Int) := d59
        rw [e59] at hb; clear e59 d59
        have e60 : vs 60 = .int .i64 (ci : Int) := d60
        rw [e60] at hb; clear e60 d60
        have e61 : vs 61 = .int .i64 (pd : Int) := d61
        rw [e61] at hb; clear e61 d61
        have e62 : vs 62 = .pointer (some ⟨gp, off + pd, none⟩) := d62
        rw [e62] at hb; clear e62 d62
        have e63 : vs 63 = .int .i64 s3 := d63
        rw [e63] at hb; clear e63 d63
        have e64 : vs 64 = .bool true := d64
        rw [e64] at hb; clear e64 d64
        have e65 : vs 65 = .bool true := d65
        rw [e65] at hb; clear e65 d65
        subst hb
        simp only [Act.put, List.setIfInBounds_toArray, List.set_cons_succ, List.set_cons_zero]
        clear hw6
        go_wp2_with fail
        go_ret
        exact ⟨rfl, HB.out⟩
    · have hok : pvB pw ph k f = false := by simpa using hok
      have hs0 : sv = 0 := by rw [← HSV.out]; unfold sampI; rw [hok]; rfl
      have e00 : (sv == 0) = true := by simp [hs0]
      rw [hok]
      clear hs0 hok
      go_wp2_with fail
      refine (alive_any _).mono ?_; rintro e w6 ⟨rfl, hw6⟩
      go_wp2_with fail
      go_ret
      exact ⟨rfl, HB.out.trans (hw6.mono (by have := HB.out.size; omega))⟩

end Go.Proofs.Ytinmfeflbaeodaa
