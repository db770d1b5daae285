/- The walk of the law on the blocks of runs. -/
import Derived.Test.YtogmlcmajecpgaaDrawRuns
import Derived.Test.YtogmlcmajecpgaaBlockOf2
import Derived.Laws.AppendOwnNone
import Derived.Deep.Cut
namespace Go.Proofs.Ytogmlcmajecpgaa
open Go.RowKit

theorem VR_len : ∀ l : List (Int × Int), (VR l).length = l.length * 2
  | [] => rfl
  | x :: l => by
    have ih := VR_len l
    have e : VR (x :: l) = .int .i64 x.1 :: .int .i64 x.2 :: VR l := rfl
    rw [e, List.length_cons, List.length_cons, ih, List.length_cons]
    omega
/-- append(s, list...): the list may be nil. -/
theorem appendRuns {ops : Array Oper} {rest : List Oper} {o : Oper} {a : Act} {w : World} {Q : Exit → Act → World → Prop} {s x : Operand} (base : Nat) {v y : Value} {l l2 : List (Int × Int)} (hown : OwnR base w v l) {hi : Nat} (hy : SrR hi w y l2) (hf : y = .slice none 0 0 ∨ ∃ ad m c, y = .slice (some ad) m c) (hn : l.length + l2.length ≤ 1000000) (hbase : base ≤ w.heap.size)
    (hgd : o.guard = none) (ho : o.op = .call { callee := .builtin .append, args := #[s, x], argTypes := #[39, 39] }) (hs : a.eval s = v) (hx : a.eval x = y)
    (h : ∀ v' w', OwnR base w' v' (l ++ l2) → w.grownBy w' v.ownBlock → wpList Try.prog ops Q rest (a.put o.dst v') w') : wpList Try.prog ops Q (o :: rest) a w := by
  obtain ⟨i0, hi, hz0, hz1, hz2⟩ := info_parts infoRun
  obtain ⟨av, cv, rfl, _, hc⟩ := hy
  rcases hf with e | ⟨ad, m, c, e⟩
  · injection e with ea en ec
    subst ea; subst ec
    have hl2 : l2 = [] := List.length_eq_zero_iff.1 en
    subst hl2
    refine wpList_plain hgd fun K hK => ?_
    have hr := run_append_owned_none (P := Try.prog) (w := w) base 39 o.type 48 i0 2 Try.underlying39 hi v _ _ hown
    unfold Oper.wp execOp
    simp only [ho, resolve, invoke, builtin, Sem.run_bind, Sem.run_pure, Result.andThen_ok, List.map_toArray, List.map_cons, List.map_nil, hs, hx, List.length_nil, hr]
    exact hK _ _ (h v w (by simpa using hown) ⟨rfl, rfl, rfl, Nat.le_refl _, fun _ _ _ => rfl⟩)
  · injection e with ea en ec
    subst ea; subst en; subst ec
    refine wpList_append_own_at _ hgd s x 39 ho base 48 i0 (.agg #[.int .i64 0, .int .i64 0]) 2 16 Try.underlying39 hi hz0 hz1 hz2 rfl (by decide) v l.length _ hs hown ad l2.length cv (VR l2) hx (VR_len l2) ?_ ?_ (by unfold maxLen; omega) (by omega) hbase ?_
    · intro j u hj
      have hjl : j < l2.length * 2 := by have := (List.getElem?_eq_some_iff.1 hj).1; rwa [VR_len] at this
      obtain ⟨g, off, ha, _, hcell⟩ := hc (by omega)
      cases ha
      obtain ⟨c1, c2⟩ := hcell (j / 2) (by omega)
      obtain ⟨g1, g2⟩ := VR_get l2 (j / 2) (by omega)
      rw [Addr.add_mid]
      by_cases e : j % 2 = 0
      · have ej : j = j / 2 * 2 := by omega
        rw [← ej] at c1 g1
        rw [hj] at g1
        cases g1
        exact c1
      · have ej : j = j / 2 * 2 + 1 := by omega
        rw [Nat.add_assoc, ← ej] at c2
        rw [← ej] at g2
        rw [hj] at g2
        cases g2
        exact c2
    · intro u hu
      simp only [VR, List.mem_flatMap, List.mem_cons, List.not_mem_nil, or_false] at hu
      obtain ⟨x, _, rfl | rfl⟩ := hu <;> rfl
    · intro v' w' h1 h2 _ _
      refine h v' w' ?_ h2
      unfold OwnR
      rw [show VR (l ++ l2) = VR l ++ VR l2 by simp [VR], List.length_append]
      exact h1
theorem bo_zero {l : List (Int × Int)} (h : boOk l = false) : boB l = fun _ => 0 := by
  match e : boTo l with
  | none => exact boB_none e
  | some (a, b) => rw [boOk_some e] at h; cases h
theorem OwnR.made (w : World) : OwnR w.heap.size (w.alloc (.cells #[] 48)) (.slice (some ⟨w.heap.size, 0, none⟩) 0 0) [] := by
  have := World.ownsRow_made (base := w.heap.size) (e := 48) (size := 2) w #[] 0 (Nat.le_refl _) (by unfold maxLen; omega) rfl
  unfold OwnR
  simpa [VR] using this
set_option maxRecDepth 100000 in
set_option maxHeartbeats 4000000 in
theorem FnBlockOf_walk (a : Option Addr) (len cap : Nat) (zs : List Int) (w : World) (h : IsRow .u8 w a len cap zs) :
    Calls Try.prog 9 #[.slice a len cap] w fun e w' => e = .returned (.bool true) ∧ Below w.heap.size w w' := by
  obtain ⟨hs, hm⟩ := h.bytes
  unfold maxLen at hm
  clear h
  by_cases hl : 1048576 < len
  · clear hs
    go_enter Try.func9, Try.ntmps9
    go_wp2
    go_ret
    exact ⟨rfl, Below.refl _ _⟩
  · have HS := Lib.hid hs; clear hs
    have HB := Lib.hid (Below.refl w.heap.size w)
    go_enter Try.func9, Try.ntmps9
    go_wp2_with fail
    refine (DrawBlockOf_any _ len _ _ HS.out (by omega)).mono ?_; rintro e w1 ⟨u, l, rfl, hS, hl, hf, hw1⟩
    have zw1 : w.heap.size ≤ w1.heap.size := hw1.size
    replace HB := Lib.hid (HB.out.trans (hw1.mono (by omega)))
    clear hw1
    have SL := Lib.hid hS; clear hS
    have HF := Lib.hid hf; clear hf
    have HM := Lib.hid (show ∀ w e w', BoGave (l ++ [(16, 1)]) w e w' → e = .returned (.tuple #[.agg (VN 16 fun _ => 0), .bool false]) ∧ Below w.heap.size w w' by intro w e w' h; unfold BoGave at h; rw [bo_more l (16, 1) rfl, bo_zero (bo_more l (16, 1) rfl)] at h; exact h)
    have HP := Lib.hid (show (boOk l = false → boB l = fun _ => 0) ∧ (boOk l = true → runsB (boB l) = l) from ⟨bo_zero, runs_bo⟩)
    obtain ⟨bb, hbb⟩ : ∃ z, boB l = z := ⟨_, rfl⟩
    obtain ⟨ok, hok⟩ : ∃ z, boOk l = z := ⟨_, rfl⟩
    have HO := Lib.hid (show ∀ w e w', BoGave l w e w' → e = .returned (.tuple #[.agg (VN 16 bb), .bool ok]) ∧ Below w.heap.size w w' by subst hbb hok; exact fun _ _ _ h => h)
    rw [hbb, hok] at HP; clear hbb hok
    have hne : (ok != ok) = false := by cases ok <;> rfl
    have he : ∀ w, (Op.equalIn 10000 29 (.agg (VN 16 (bb))) (.agg (VN 16 (bb)))).run Try.prog w = .ok true w := fun w => by rw [run_equal16, eqB_true (fun _ _ => rfl)]
    go_wp2_with fail
    refine (iBlockOf_any _ l _ (SL.out.sr.mono (by omega)) (by omega)).mono ?_; intro e w2 hg; obtain ⟨rfl, hw2⟩ := HO.out _ _ _ hg; clear hg
    have zw2 : w1.heap.size ≤ w2.heap.size := hw2.size
    replace HB := Lib.hid (HB.out.trans (hw2.mono (by omega)))
    replace SL := Lib.hid (SL.out.below hw2 (by omega))
    clear hw2
    have HN := Lib.hid (show Blk (w2.alloc (.cells #[.int .i64 0, .int .i64 0, .int .i64 0, .int .i64 0, .int .i64 0, .int .i64 0, .int .i64 0, .int .i64 0, .int .i64 0, .int .i64 0, .int .i64 0, .int .i64 0, .int .i64 0, .int .i64 0, .int .i64 0, .int .i64 0] 29)) w2.heap.size 16 29 (fun _ => 0) by rw [← zero16]; exact Blk.new _ _ _ _)
    obtain ⟨w3, hw⟩ : ∃ w3, w3 = (w2.alloc (.cells #[.int .i64 0, .int .i64 0, .int .i64 0, .int .i64 0, .int .i64 0, .int .i64 0, .int .i64 0, .int .i64 0, .int .i64 0, .int .i64 0, .int .i64 0, .int .i64 0, .int .i64 0, .int .i64 0, .int .i64 0, .int .i64 0] 29)).setRow w2.heap.size (VN 16 (bb)) := ⟨_, rfl⟩
    have hV : Blk w3 w2.heap.size 16 29 (bb) := by rw [hw]; exact HN.out.setRow _
    have hw3 : Below w2.heap.size w2 w3 := by rw [hw]; exact below_setRow ((Below.refl _ _).alloc (Nat.le_refl _) _) (Nat.le_refl _) _
    have zw3 : w2.heap.size < w3.heap.size := by rw [hw]; simp
    have HW := Lib.hid hw; clear hw
    replace HB := Lib.hid (HB.out.trans (hw3.mono (by omega)))
    replace SL := Lib.hid (SL.out.below hw3 (by omega))
    have Va := Lib.hid hV; clear hV hw3
    go_wp2_with (refine store16 w2.heap.size _ HN.out rfl rfl rfl rfl ?_; rw [← HW.out])
    clear HW HN
    refine (sBlockOf_any _ l _ (SL.out.sr.mono (by omega)) (by omega)).mono ?_; intro e w4 hg; obtain ⟨rfl, hw4⟩ := HO.out _ _ _ hg; clear hg
    have zw4 : w3.heap.size ≤ w4.heap.size := hw4.size
    replace HB := Lib.hid (HB.out.trans (hw4.mono (by omega)))
    replace SL := Lib.hid (SL.out.below hw4 (by omega))
    replace Va := Lib.hid (Va.out.below hw4 (by omega))
    clear hw4
    have HN := Lib.hid (show Blk (w4.alloc (.cells #[.int .i64 0, .int .i64 0, .int .i64 0, .int .i64 0, .int .i64 0, .int .i64 0, .int .i64 0, .int .i64 0, .int .i64 0, .int .i64 0, .int .i64 0, .int .i64 0, .int .i64 0, .int .i64 0, .int .i64 0, .int .i64 0] 29)) w4.heap.size 16 29 (fun _ => 0) by rw [← zero16]; exact Blk.new _ _ _ _)
    obtain ⟨w5, hw⟩ : ∃ w5, w5 = (w4.alloc (.cells #[.int .i64 0, .int .i64 0, .int .i64 0, .int .i64 0, .int .i64 0, .int .i64 0, .int .i64 0, .int .i64 0, .int .i64 0, .int .i64 0, .int .i64 0, .int .i64 0, .int .i64 0, .int .i64 0, .int .i64 0, .int .i64 0] 29)).setRow w4.heap.size (VN 16 (bb)) := ⟨_, rfl⟩
    have hV : Blk w5 w4.heap.size 16 29 (bb) := by rw [hw]; exact HN.out.setRow _
    have hw5 : Below w4.heap.size w4 w5 := by rw [hw]; exact below_setRow ((Below.refl _ _).alloc (Nat.le_refl _) _) (Nat.le_refl _) _
    have zw5 : w4.heap.size < w5.heap.size := by rw [hw]; simp
    have HW := Lib.hid hw; clear hw
    replace HB := Lib.hid (HB.out.trans (hw5.mono (by omega)))
    replace SL := Lib.hid (SL.out.below hw5 (by omega))
    replace Va := Lib.hid (Va.out.below hw5 (by omega))
    have Vb := Lib.hid hV; clear hV hw5
    go_wp2_with (first | (refine store16 w4.heap.size _ HN.out rfl rfl rfl rfl ?_; rw [← HW.out]) | refine load16 (w2.heap.size) Va.out rfl rfl rfl ?_ | refine load16 (w4.heap.size) Vb.out rfl rfl rfl ?_ | (at_builtin; refine appendRuns w5.heap.size (OwnR.made _) ((SL.out.below ((Below.refl _ w5).alloc (Nat.le_refl _) _) (by omega)).sr) HF.out (by simp; omega) (by simp) rfl rfl rfl rfl ?_; intro v6 w6 hO6 hg6; have HO6 := Lib.hid hO6; clear hO6) | (at_builtin; refine appendRun w5.heap.size 16 1 w6.heap.size (OwnR.alloc HO6.out _) (RunB.new' rfl) (by simp; omega) (by have := hg6.size; simp at this; simp; omega) rfl rfl rfl rfl ?_; intro v7 w7 hO7 hg7 hat; have HO7 := Lib.hid hO7; clear hO7))
    clear HW HN
    have hB6 : Below w5.heap.size w5 w6 := ((Below.refl _ _).alloc (Nat.le_refl _) _).grown hg6 (by simp) (fun g e => by simp [Value.ownBlock] at e; omega)
    have hw7 : Below w5.heap.size w5 w7 := (hB6.alloc hB6.size _).grown hg7 (by have := hB6.size; simp; omega) (fun g e => (OwnR.lt HO6.out g e).1)
    clear hB6 hg6 hg7 hat HO6
    have zw7 : w5.heap.size ≤ w7.heap.size := hw7.size
    replace HB := Lib.hid (HB.out.trans (hw7.mono (by omega)))
    replace SL := Lib.hid (SL.out.below hw7 (by omega))
    replace Va := Lib.hid (Va.out.below hw7 (by omega))
    replace Vb := Lib.hid (Vb.out.below hw7 (by omega))
    clear hw7
    refine (iBlockOf_any _ (l ++ [(16, 1)]) _ (OwnR.sn HO7.out).sr (by simp; omega)).mono ?_; intro e w8 hg; obtain ⟨rfl, hw8⟩ := HM.out _ _ _ hg; clear hg
    have zw8 : w7.heap.size ≤ w8.heap.size := hw8.size
    replace HB := Lib.hid (HB.out.trans (hw8.mono (by omega)))
    replace SL := Lib.hid (SL.out.below hw8 (by omega))
    replace Va := Lib.hid (Va.out.below hw8 (by omega))
    replace Vb := Lib.hid (Vb.out.below hw8 (by omega))
    clear hw8
    clear HO7 HM
    cases ok
    · have hb0 := HP.out.1 rfl
      subst hb0
      have hz : ∀ w, (Op.equalIn 10000 29 (.agg (VN 16 (fun _ => 0))) (.agg #[.int .i64 0, .int .i64 0, .int .i64 0, .int .i64 0, .int .i64 0, .int .i64 0, .int .i64 0, .int .i64 0, .int .i64 0, .int .i64 0, .int .i64 0, .int .i64 0, .int .i64 0, .int .i64 0, .int .i64 0, .int .i64 0])).run Try.prog w = .ok true w := fun w => by rw [run_equal16z, show eqB (fun _ => 0) (fun _ => 0) = true from eqB_true (fun _ _ => rfl)]
      have HN := Lib.hid (show Blk (w8.alloc (.cells #[.int .i64 0, .int .i64 0, .int .i64 0, .int .i64 0, .int .i64 0, .int .i64 0, .int .i64 0, .int .i64 0, .int .i64 0, .int .i64 0, .int .i64 0, .int .i64 0, .int .i64 0, .int .i64 0, .int .i64 0, .int .i64 0] 29)) w8.heap.size 16 29 (fun _ => 0) by rw [← zero16]; exact Blk.new _ _ _ _)
      obtain ⟨w9, hw⟩ : ∃ w9, w9 = (w8.alloc (.cells #[.int .i64 0, .int .i64 0, .int .i64 0, .int .i64 0, .int .i64 0, .int .i64 0, .int .i64 0, .int .i64 0, .int .i64 0, .int .i64 0, .int .i64 0, .int .i64 0, .int .i64 0, .int .i64 0, .int .i64 0, .int .i64 0] 29)).setRow w8.heap.size (VN 16 (fun _ => 0)) := ⟨_, rfl⟩
      have hV : Blk w9 w8.heap.size 16 29 (fun _ => 0) := by rw [hw]; exact HN.out.setRow _
      have hw9 : Below w8.heap.size w8 w9 := by rw [hw]; exact below_setRow ((Below.refl _ _).alloc (Nat.le_refl _) _) (Nat.le_refl _) _
      have zw9 : w8.heap.size < w9.heap.size := by rw [hw]; simp
      have HW := Lib.hid hw; clear hw
      replace HB := Lib.hid (HB.out.trans (hw9.mono (by omega)))
      replace SL := Lib.hid (SL.out.below hw9 (by omega))
      replace Va := Lib.hid (Va.out.below hw9 (by omega))
      replace Vb := Lib.hid (Vb.out.below hw9 (by omega))
      have Vm := Lib.hid hV; clear hV hw9
      go_wp2_with (first | (refine store16 w8.heap.size _ HN.out rfl rfl rfl rfl ?_; rw [← HW.out]) | refine load16 (w2.heap.size) Va.out rfl rfl rfl ?_)
      clear HW HN
      refine (alive_any _).mono ?_; rintro e w10 ⟨rfl, hw10⟩
      go_wp2_with fail
      go_ret
      exact ⟨rfl, HB.out.trans (hw10.mono (by have := HB.out.size; omega))⟩
    · have hr := HP.out.2 rfl
      have HI := Lib.hid (show ∀ w, Calls Try.prog 27 #[.agg (VN 16 bb)] w (fun e w' => ∃ v, e = .returned v ∧ OwnR w.heap.size w' v l ∧ Below w.heap.size w w') by rw [← hr]; exact iRunsOf_any bb)
      clear hr HP HO
      have HN := Lib.hid (show Blk (w8.alloc (.cells #[.int .i64 0, .int .i64 0, .int .i64 0, .int .i64 0, .int .i64 0, .int .i64 0, .int .i64 0, .int .i64 0, .int .i64 0, .int .i64 0, .int .i64 0, .int .i64 0, .int .i64 0, .int .i64 0, .int .i64 0, .int .i64 0] 29)) w8.heap.size 16 29 (fun _ => 0) by rw [← zero16]; exact Blk.new _ _ _ _)
      obtain ⟨w9, hw⟩ : ∃ w9, w9 = (w8.alloc (.cells #[.int .i64 0, .int .i64 0, .int .i64 0, .int .i64 0, .int .i64 0, .int .i64 0, .int .i64 0, .int .i64 0, .int .i64 0, .int .i64 0, .int .i64 0, .int .i64 0, .int .i64 0, .int .i64 0, .int .i64 0, .int .i64 0] 29)).setRow w8.heap.size (VN 16 (fun _ => 0)) := ⟨_, rfl⟩
      have hV : Blk w9 w8.heap.size 16 29 (fun _ => 0) := by rw [hw]; exact HN.out.setRow _
      have hw9 : Below w8.heap.size w8 w9 := by rw [hw]; exact below_setRow ((Below.refl _ _).alloc (Nat.le_refl _) _) (Nat.le_refl _) _
      have zw9 : w8.heap.size < w9.heap.size := by rw [hw]; simp
      have HW := Lib.hid hw; clear hw
      replace HB := Lib.hid (HB.out.trans (hw9.mono (by omega)))
      replace SL := Lib.hid (SL.out.below hw9 (by omega))
      replace Va := Lib.hid (Va.out.below hw9 (by omega))
      replace Vb := Lib.hid (Vb.out.below hw9 (by omega))
      have Vm := Lib.hid hV; clear hV hw9
      go_wp2_with (first | (refine store16 w8.heap.size _ HN.out rfl rfl rfl rfl ?_; rw [← HW.out]) | refine load16 (w2.heap.size) Va.out rfl rfl rfl ?_)
      clear HW HN
      refine (HI.out _).mono ?_; rintro e w10 ⟨vi, rfl, ho, hw10⟩
      have zw10 : w9.heap.size ≤ w10.heap.size := hw10.size
      replace HB := Lib.hid (HB.out.trans (hw10.mono (by omega)))
      replace SL := Lib.hid (SL.out.below hw10 (by omega))
      replace Va := Lib.hid (Va.out.below hw10 (by omega))
      replace Vb := Lib.hid (Vb.out.below hw10 (by omega))
      replace Vm := Lib.hid (Vm.out.below hw10 (by omega))
      clear hw10
      have SI := Lib.hid ho.sn; clear ho HI
      have SL1 := SL.out; have SI1 := SI.out
      obtain ⟨n, hn⟩ : ∃ n, l.length = n := ⟨_, rfl⟩
      obtain ⟨al, cl, rfl, hcl, hxl⟩ := SL1
      obtain ⟨ai, ci, rfl, hci, hxi⟩ := SI1
      rw [hn] at hcl hxl hci hxi SL SI HF ⊢
      have hn17 : n ≤ 17 := by omega
      have HX := Lib.hid hxi; have HY := Lib.hid hxl; clear hxi hxl hn hl
      clear SL SI HF Va Vb Vm
      go_wp2_with fail
      go_loopw [11] (fun i wr => ∃ k j : Nat, k ≤ n ∧ i = .int .i64 k ∧ wr = w10.drewN j) (fun i _ => n - (intOf i).toNat)
      case atStart => exact ⟨0, 0, by omega, rfl, rfl⟩
      case round =>
        obtain ⟨k, j, hk, rfl, rfl⟩ := hrel
        by_cases hlt : k < n
        · obtain ⟨gi, oi, rfl, _, _, hci⟩ := HX.out (by omega)
          obtain ⟨gs, os, rfl, _, _, hcs⟩ := HY.out (by omega)
          have c1 := (hci k hlt).1.1
          have c2 := (hci k hlt).1.2
          have d1 := (hcs k hlt).1.1
          have d2 := (hcs k hlt).1.2
          obtain ⟨x, hx⟩ : ∃ x, zr l k = x := ⟨_, rfl⟩
          obtain ⟨y, hy⟩ : ∃ y, lv l k = y := ⟨_, rfl⟩
          rw [hx] at c1 d1
          rw [hy] at c2 d2
          have hk1 : (k : Int) < n := by omega
          have hk0 : (0 : Int) ≤ k := by omega
          clear hci hcs hx hy
          go_wp2_with fail
          go_quiet (fail)
          go_wp2_with fail
          go_roundw
          case rel => exact ⟨k + 1, _, by omega, by go_num, rfl⟩
          case measure => simp [intOf]; omega
        · go_wp2_with fail
          refine (alive_any _).mono ?_; rintro e wz ⟨rfl, hz⟩
          go_wp2_with fail
          go_ret
          exact ⟨rfl, HB.out.trans ((below_drewN (Below.refl _ _) j).trans (hz.mono (by have := HB.out.size; simpa using this)))⟩
end Go.Proofs.Ytogmlcmajecpgaa
