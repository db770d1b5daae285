/- The walks of the laws on pictures whose argument is a code to draw from. -/
import Derived.Test.YtinmfeflbaeodaaDrawPic3
import Derived.Test.YtinmfeflbaeodaaScan
import Derived.Test.YtinmfeflbaeodaaLooseG
import Derived.ArgAppend
import Derived.Deep.Cut
namespace Go.Proofs.Ytinmfeflbaeodaa
open Go.RowKit

set_option maxHeartbeats 1000000 in
theorem samePicture_yes (pw ph : Int) (u v : Value) (n : Nat) (b c : Nat → Int) (w : World) (hu : Sr .i64 w.heap.size w u n b) (hv : Sr .i64 w.heap.size w v n c) (h : ∀ i, i < n → b i = c i) (hn : n ≤ 1000000000000) :
    Calls Try.prog 13 #[.agg #[.int .i64 pw, .int .i64 ph, u], .agg #[.int .i64 pw, .int .i64 ph, v]] w fun e w' => e = .returned (.bool true) ∧ Below w.heap.size w w' := by
  obtain ⟨w0, hw0⟩ : ∃ w0, w0 = (w.alloc (.cells #[.int .i64 pw, .int .i64 ph, u] 25)).alloc (.cells #[.int .i64 pw, .int .i64 ph, v] 25) := ⟨_, rfl⟩
  have hA : PicB w0 w.heap.size pw ph u := by rw [hw0]; exact (PicB.new' rfl).alloc _
  have hB : PicB w0 (w.heap.size + 1) pw ph v := by rw [hw0]; exact PicB.new' (by simp)
  have hbel : Below w.heap.size w w0 := by rw [hw0]; exact ((Below.refl _ _).alloc (Nat.le_refl _) _).alloc (by simp) _
  have HU := Lib.hid ((hu.below hbel (Nat.le_refl _)).mono hbel.size)
  have HV := Lib.hid ((hv.below hbel (Nat.le_refl _)).mono hbel.size)
  have HH := Lib.hid h
  have HW := Lib.hid hw0
  clear hw0 hu hv h
  have a0 := hA.c0; have a1 := hA.c1; have a2 := hA.c2
  have b0 := hB.c0; have b1 := hB.c1; have b2 := hB.c2
  go_enter Try.func13, Try.ntmps13
  go_wp2_with fail
  rw [← HW.out]
  clear HW
  go_wp2_with fail
  refine (sameInts_yes u v n b c _ HU.out HV.out HH.out hn).mono ?_; rintro e w1 ⟨rfl, hb1⟩
  go_wp2_with fail
  go_ret
  exact ⟨rfl, hbel.trans (hb1.mono hbel.size)⟩
theorem Sn.tailG {lo hi gp off cp n : Nat} {w : World} {f : Nat → Int} (h : Sn .i64 lo hi w (.slice (some ⟨gp, off, none⟩) n cp) n f) (h0 : 0 < n) : Sn .i64 lo hi w (.slice (some ⟨gp, off + 1, none⟩) (n - 1) (cp - 1)) (n - 1) (fun i => f (i + 1)) := by
  obtain ⟨a', cap', e', hn', hcl⟩ := h
  obtain ⟨g', off', e'', h1, h2, hcl⟩ := hcl h0
  cases e'
  cases e''
  refine ⟨_, _, rfl, by omega, fun _ => ⟨gp, off + 1, rfl, h1, h2, fun i hi => ?_⟩⟩
  have hc := hcl (i + 1) (by omega)
  rw [show off + 1 + i = off + (i + 1) by omega]
  exact hc
theorem pic_keep {B g : Nat} {w w' : World} {pw ph : Int} {v : Value} (h : PicB w g pw ph v) (hr : Below w.heap.size w w') (_ : B ≤ g) : PicB w' g pw ph v := h.below hr h.lt
/-- append(literal of one number, slice...) beyond the literal's capacity: new memory. -/
theorem wp_append_two {o : Oper} {a : Act} {w : World} {K : Act → World → Prop} {Q : Exit → Act → World → Prop} {s x : Operand} (ho : o.op = .call { callee := .builtin .append, args := #[s, x], argTypes := #[23, 23] })
    (L : Nat) (y : Int) (hs : a.eval s = .slice (some ⟨L, 0, none⟩) 1 1) (hL : w.cell? ⟨L, 0, none⟩ = some (.int .i64 y)) {v : Value} {hi m : Nat} {b : Nat → Int} (hx : a.eval x = v) (hv : Sr .i64 hi w v m b) (h0 : 1 ≤ m) (hm : m ≤ 1000000)
    (h : ∀ a' c' w', OwnK .i64 3 w.heap.size w' (.slice a' (1 + m) c') (1 + m) (fun i => if i = 0 then y else b (i - 1)) → Below w.heap.size w w' → K (a.put o.dst (.slice a' (1 + m) c')) w') : Oper.wp Try.prog o a w K Q := by
  obtain ⟨i0, hi0, hz0, hz1, hz2⟩ := info_parts infoInt
  obtain ⟨av, cv, rfl, _, hc⟩ := hv
  obtain ⟨g, off, rfl, _, hcell⟩ := hc (by omega)
  obtain ⟨v', w', hrun, r1, r2⟩ := run_append_arg_grows (P := Try.prog) w 23 o.type 3 i0 (.int .i64 0) 1 8 Try.underlying23 hi0 hz0 hz1 hz2 rfl (by decide) ⟨L, 0, none⟩ 1 1 [.int .i64 y] rfl
    (fun j u hj => by match j, hj with | 0, hj => (simp at hj; subst hj; simpa [Addr.add] using hL) | j + 1, hj => simp at hj)
    ⟨g, off, none⟩ m cv (VL .i64 m b) (by rw [VL_len]; omega) (fun j u hj => by
      have hjm : j < m := by have := (List.getElem?_eq_some_iff.1 hj).1; rwa [VL_len] at this
      rw [VL_get _ _ _ _ hjm] at hj
      cases hj
      rw [Addr.add_lit]
      exact hcell j hjm) (by omega) (by unfold maxLen; omega) (by omega)
  have hown : OwnK .i64 3 w.heap.size w' v' (1 + m) (fun i => if i = 0 then y else b (i - 1)) := by
    unfold OwnK
    have e : VL .i64 (1 + m) (fun i => if i = 0 then y else b (i - 1)) = [.int .i64 y] ++ VL .i64 m b := by
      apply List.ext_getElem?
      intro i
      by_cases hi : i < 1 + m
      · rw [VL_get _ _ _ _ hi]
        by_cases h1 : i = 0
        · subst h1; rfl
        · obtain ⟨j, rfl⟩ : ∃ j, i = j + 1 := ⟨i - 1, by omega⟩
          rw [if_neg (by omega)]
          simp only [List.cons_append, List.nil_append, List.getElem?_cons_succ]
          rw [VL_get _ _ _ _ (by omega)]
          rfl
      · rw [List.getElem?_eq_none (by rw [VL_len]; omega), List.getElem?_eq_none (by simp [VL_len]; omega)]
    rw [e]
    exact r1
  have hb : Below w.heap.size w w' := ⟨r2.os, r2.tape, r2.output, r2.size, fun k hk => r2.block k hk (by simp)⟩
  have hsn := hown.sn
  obtain ⟨a', c', rfl, h1, h2⟩ := hsn
  have hKK := h a' c' w' hown hb
  unfold Oper.wp
  simp [execOp, ho, resolve, invoke, builtin, hs, hx, hrun, Result.andThen]
  exact hKK
theorem own_row {base g : Nat} {w : World} {v : Value} {n : Nat} {f : Nat → Int} {pw ph : Int} {u : Value} (h : OwnK .i64 3 base w v n f) (hp : PicB w g pw ph u) (cs : Array Value) : OwnK .i64 3 base (w.setRow g cs) v n f :=
  h.kept fun g' hg => heap_setRow_other _ _ _ _ (by
    intro e
    subst e
    rcases h.2 with ⟨rfl, _⟩ | ⟨g2, cap, cur, rfl, _, hh, _⟩
    · simp [Value.ownBlock] at hg
    · obtain rfl : g2 = g' := by simpa [Value.ownBlock] using hg
      unfold PicB at hp
      rw [hh] at hp
      simp at hp)
theorem less_no {pw ph : Int} {k : Nat} {f : Nat → Int} (h : pvB pw ph k f = true) : pvB pw ph (k - 1) (fun i => f (i + 1)) = false := by
  obtain ⟨h1, h2, h3, _⟩ := pvB_out h
  have := side_mul pw ph h1 h2
  exact pvB_n (by omega)
theorem bad_no {pw ph : Int} {k : Nat} {f : Nat → Int} : pvB pw ph (1 + k) (fun i => if i = 0 then 256 else f (i - 1 + 1)) = false := by
  cases h : pvB pw ph (1 + k) (fun i => if i = 0 then 256 else f (i - 1 + 1)) with
  | false => rfl
  | true =>
    have := (pvB_out h).2.2.2 0 (by omega)
    simp at this
theorem odd_no {pw ph : Int} {k : Nat} {f : Nat → Int} (h : pvB pw ph k f = true) : pvB (pw - 1) ph k f = false := by
  have h1 := sideB_out (pvB_out h).1
  exact pvB_w (by omega)
theorem pv_size {pw ph : Int} {k : Nat} {f : Nat → Int} (h : pvB pw ph k f = true) : (8 ≤ pw ∧ pw ≤ 32) ∧ (8 ≤ ph ∧ ph ≤ 32) ∧ 64 ≤ k ∧ k ≤ 1024 := by
  obtain ⟨h1, h2, h3, _⟩ := pvB_out h
  have := side_mul pw ph h1 h2
  have a := sideB_out h1
  have b := sideB_out h2
  omega
set_option maxRecDepth 100000 in
set_option maxHeartbeats 4000000 in
theorem FnPictureValid_walk (a : Option Addr) (len cap : Nat) (zs : List Int) (w : World) (h : IsRow .u8 w a len cap zs) :
    Calls Try.prog 5 #[.slice a len cap] w fun e w' => e = .returned (.bool true) ∧ Below w.heap.size w w' := by
  obtain ⟨hs, hm⟩ := h.bytes
  unfold maxLen at hm
  clear h
  by_cases hl : 1048576 < len
  · clear hs
    go_enter Try.func5, Try.ntmps5
    go_wp2
    go_ret
    exact ⟨rfl, Below.refl _ _⟩
  · have HS := Lib.hid hs; clear hs
    have HB := Lib.hid (Below.refl w.heap.size w)
    go_enter Try.func5, Try.ntmps5
    go_wp2_with fail
    refine (DrawPictureValid_any _ len _ _ HS.out (by omega)).mono ?_; rintro e w1 ⟨pw, ph, u, k, f, rfl, hS, hk, hw1⟩
    have zw1 : w.heap.size ≤ w1.heap.size := hw1.size
    replace HB := Lib.hid (HB.out.trans (hw1.mono (by omega)))
    clear hw1
    have hu1 := hS.one
    have SP := Lib.hid hS; clear hS
    obtain ⟨ok, hok⟩ : ∃ ok, pvB pw ph k f = ok := ⟨_, rfl⟩
    have HOK := Lib.hid hok; clear hok
    have hne : (ok != ok) = false := by cases ok <;> rfl
    have HN := Lib.hid (show PicB (w1.alloc (.cells #[.int .i64 0, .int .i64 0, .slice none 0 0] 25)) w1.heap.size 0 0 (.slice none 0 0) from PicB.new' rfl)
    obtain ⟨w2, hw⟩ : ∃ x, x = (w1.alloc (.cells #[.int .i64 0, .int .i64 0, .slice none 0 0] 25)).setRow w1.heap.size #[.int .i64 pw, .int .i64 ph, u] := ⟨_, rfl⟩
    have hV : PicB w2 w1.heap.size pw ph (u) := by rw [hw]; exact HN.out.setRow _ _ _
    have hw2 : Below w1.heap.size w1 w2 := by rw [hw]; exact below_setRow ((Below.refl _ _).alloc (Nat.le_refl _) _) (Nat.le_refl _) _
    have zw2 : w1.heap.size < w2.heap.size := by rw [hw]; simp
    have HW := Lib.hid hw; clear hw
    replace HB := Lib.hid (HB.out.trans (hw2.mono (by omega)))
    replace SP := Lib.hid (SP.out.below hw2 (by omega))
    have Vp := Lib.hid hV; clear hV hw2
    go_wp2_with (first | (refine storeP w1.heap.size HN.out hu1 rfl rfl rfl rfl ?_; rw [← HW.out]) | refine loadP (w1.heap.size) Vp.out rfl rfl rfl ?_)
    clear HW HN
    refine (iPictureValid_any pw ph u k f _ (SP.out.sr.mono (by omega)) (by omega)).mono ?_; rintro e w3 ⟨rfl, hw3⟩
    have zw3 : w2.heap.size ≤ w3.heap.size := hw3.size
    replace HB := Lib.hid (HB.out.trans (hw3.mono (by omega)))
    replace SP := Lib.hid (SP.out.below hw3 (by omega))
    replace Vp := Lib.hid (Vp.out.below hw3 (by omega))
    clear hw3
    rw [HOK.out]
    go_wp2_with (first | refine loadP (w1.heap.size) Vp.out rfl rfl rfl ?_)
    refine (sPictureValid_any pw ph u k f _ (SP.out.sr.mono (by omega)) (by omega)).mono ?_; rintro e w4 ⟨rfl, hw4⟩
    have zw4 : w3.heap.size ≤ w4.heap.size := hw4.size
    replace HB := Lib.hid (HB.out.trans (hw4.mono (by omega)))
    replace SP := Lib.hid (SP.out.below hw4 (by omega))
    replace Vp := Lib.hid (Vp.out.below hw4 (by omega))
    clear hw4
    rw [HOK.out]
    clear hne
    cases ok
    · skip
      go_wp2_with fail
      refine (alive_any _).mono ?_; rintro e w5 ⟨rfl, hw5⟩
      go_wp2_with fail
      go_ret
      exact ⟨rfl, HB.out.trans (hw5.mono (by have := HB.out.size; omega))⟩
    · obtain ⟨hs1, hs2, hs3, hs4⟩ := pv_size HOK.out
      have SP1 := SP.out
      obtain ⟨a0, cp, rfl, hcap, hcl⟩ := SP1
      obtain ⟨gp, off, rfl, _, _, _⟩ := hcl (by omega)
      clear hcl hu1
      have hcp : ¬ cp = 1 := by omega
      go_wp2_with fail
      refine wp_region_log 9 (fun _ w' => Below w4.heap.size w4 w') (fun w1 w2 => Below w1.heap.size w1 w2) [fun _ v => v = .pointer (some ⟨w1.heap.size, 0, none⟩), fun _ v => v = .int .i64 pw, fun _ v => v = .pointer (some ⟨w1.heap.size, 1, none⟩), fun _ v => v = .int .i64 ph, fun _ v => v = .pointer (some ⟨w1.heap.size, 2, none⟩), fun _ v => v = .slice (some ⟨gp, off, none⟩) k cp, fun _ v => v = .slice (some ⟨gp, off + 1, none⟩) (k - 1) (cp - 1), fun _ v => v = .agg #[.int .i64 pw, .int .i64 ph, .slice (some ⟨gp, off + 1, none⟩) (k - 1) (cp - 1)], fun w' v => ∃ g, v = .pointer (some ⟨g, 0, none⟩) ∧ w4.heap.size ≤ g ∧ PicB w' g 0 0 (.slice none 0 0)] (by kernel_rfl) (by kernel_rfl) (Below.refl _ _).drew ?_ ?_ ?_
      · intro V hV wq1 wq2 v hv hr
        simp only [List.mem_cons, List.not_mem_nil, or_false] at hV
        rcases hV with rfl | rfl | rfl | rfl | rfl | rfl | rfl | rfl | rfl
        · exact hv
        · exact hv
        · exact hv
        · exact hv
        · exact hv
        · exact hv
        · exact hv
        · exact hv
        · obtain ⟨g8, e8, k8, p8⟩ := hv; exact ⟨g8, e8, k8, p8.below hr p8.lt⟩
      · refine ⟨?_, ?_, ?_, ?_, ?_, ?_, ?_, ?_, ?_, trivial⟩
        · intro vs k1 wq1 hk1 hS1 hd fb hb K hK
          replace hb : fb = _ := hb
          subst hb
          refine ifW_yes (by kernel_rfl) ?_
          go_simp
          exact hK.out _ _ hS1 (Below.refl _ _) rfl
        · intro vs k1 wq1 hk1 hS1 hd fb hb K hK
          obtain ⟨d0, _⟩ := hd
          replace hb : fb = Act.put (_) (some 22) (vs 0) := hb
          have e0 : vs 0 = .pointer (some ⟨w1.heap.size, 0, none⟩) := d0
          rw [e0] at hb; clear e0 d0
          subst hb
          refine ifW_yes (by kernel_rfl) ?_
          have c := (Vp.out.below hS1 (by omega)).c0
          go_simp
          exact hK.out _ _ hS1 (Below.refl _ _) rfl
        · intro vs k1 wq1 hk1 hS1 hd fb hb K hK
          replace hb : fb = _ := hb
          subst hb
          refine ifW_yes (by kernel_rfl) ?_
          go_simp
          exact hK.out _ _ hS1 (Below.refl _ _) rfl
        · intro vs k1 wq1 hk1 hS1 hd fb hb K hK
          obtain ⟨d2, _⟩ := hd
          replace hb : fb = Act.put (_) (some 24) (vs 2) := hb
          have e2 : vs 2 = .pointer (some ⟨w1.heap.size, 1, none⟩) := d2
          rw [e2] at hb; clear e2 d2
          subst hb
          refine ifW_yes (by kernel_rfl) ?_
          have c := (Vp.out.below hS1 (by omega)).c1
          go_simp
          exact hK.out _ _ hS1 (Below.refl _ _) rfl
        · intro vs k1 wq1 hk1 hS1 hd fb hb K hK
          replace hb : fb = _ := hb
          subst hb
          refine ifW_yes (by kernel_rfl) ?_
          go_simp
          exact hK.out _ _ hS1 (Below.refl _ _) rfl
        · intro vs k1 wq1 hk1 hS1 hd fb hb K hK
          obtain ⟨d4, _⟩ := hd
          replace hb : fb = Act.put (_) (some 26) (vs 4) := hb
          have e4 : vs 4 = .pointer (some ⟨w1.heap.size, 2, none⟩) := d4
          rw [e4] at hb; clear e4 d4
          subst hb
          refine ifW_yes (by kernel_rfl) ?_
          have c := (Vp.out.below hS1 (by omega)).c2
          go_simp
          exact hK.out _ _ hS1 (Below.refl _ _) rfl
        · intro vs k1 wq1 hk1 hS1 hd fb hb K hK
          obtain ⟨d5, _⟩ := hd
          replace hb : fb = Act.put (_) (some 27) (vs 5) := hb
          have e5 : vs 5 = .slice (some ⟨gp, off, none⟩) k cp := d5
          rw [e5] at hb; clear e5 d5
          subst hb
          refine ifW_yes (by kernel_rfl) ?_
          have hk1 : (1 : Int) ≤ (k : Int) := by omega
          go_simp
          exact hK.out _ _ hS1 (Below.refl _ _) rfl
        · intro vs k1 wq1 hk1 hS1 hd fb hb K hK
          obtain ⟨d1, d3, d6, _⟩ := hd
          replace hb : fb = Act.put (Act.put (Act.put (_) (some 23) (vs 1)) (some 25) (vs 3)) (some 28) (vs 6) := hb
          have e1 : vs 1 = .int .i64 pw := d1
          rw [e1] at hb; clear e1 d1
          have e3 : vs 3 = .int .i64 ph := d3
          rw [e3] at hb; clear e3 d3
          have e6 : vs 6 = .slice (some ⟨gp, off + 1, none⟩) (k - 1) (cp - 1) := d6
          rw [e6] at hb; clear e6 d6
          subst hb
          refine ifW_yes (by kernel_rfl) ?_
          go_simp
          exact hK.out _ _ hS1 (Below.refl _ _) rfl
        · intro vs k1 wq1 hk1 hS1 hd fb hb K hK
          replace hb : fb = _ := hb
          subst hb
          refine ifW_yes (by kernel_rfl) ?_
          have hz1 := hS1.size
          go_simp
          exact hK.out _ _ (hS1.alloc hS1.size _) ((Below.refl _ _).alloc (Nat.le_refl _) _) ⟨wq1.heap.size, rfl, hS1.size, PicB.new' rfl⟩
      · intro vs w5 hw5 hd fb hb
        have zw5 : w4.heap.size ≤ w5.heap.size := hw5.size
        replace HB := Lib.hid (HB.out.trans (hw5.mono (by omega)))
        replace SP := Lib.hid (SP.out.below hw5 (by omega))
        replace Vp := Lib.hid (Vp.out.below hw5 (by omega))
        obtain ⟨d0, d1, d2, d3, d4, d5, d6, d7, d8, _⟩ := hd
        replace hb : fb = Act.put (Act.put (Act.put (Act.put (Act.put (Act.put (Act.put (Act.put (Act.put (_) (some 22) (vs 0)) (some 23) (vs 1)) (some 24) (vs 2)) (some 25) (vs 3)) (some 26) (vs 4)) (some 27) (vs 5)) (some 28) (vs 6)) (some 29) (vs 7)) (some 5) (vs 8) := hb
        have e0 : vs 0 = .pointer (some ⟨w1.heap.size, 0, none⟩) := d0
        rw [e0] at hb; clear e0 d0
        have e1 : vs 1 = .int .i64 pw := d1
        rw [e1] at hb; clear e1 d1
        have e2 : vs 2 = .pointer (some ⟨w1.heap.size, 1, none⟩) := d2
        rw [e2] at hb; clear e2 d2
        have e3 : vs 3 = .int .i64 ph := d3
        rw [e3] at hb; clear e3 d3
        have e4 : vs 4 = .pointer (some ⟨w1.heap.size, 2, none⟩) := d4
        rw [e4] at hb; clear e4 d4
        have e5 : vs 5 = .slice (some ⟨gp, off, none⟩) k cp := d5
        rw [e5] at hb; clear e5 d5
        have e6 : vs 6 = .slice (some ⟨gp, off + 1, none⟩) (k - 1) (cp - 1) := d6
        rw [e6] at hb; clear e6 d6
        have e7 : vs 7 = .agg #[.int .i64 pw, .int .i64 ph, .slice (some ⟨gp, off + 1, none⟩) (k - 1) (cp - 1)] := d7
        rw [e7] at hb; clear e7 d7
        obtain ⟨g8, e8, k8, p8⟩ := d8
        rw [e8] at hb; clear e8
        subst hb
        simp only [List.drop_succ_cons, List.drop_zero, Act.put, List.setIfInBounds_toArray, List.set_cons_succ, List.set_cons_zero]
        clear hw5
        obtain ⟨w6, hw⟩ : ∃ x, x = w5.setRow g8 #[.int .i64 pw, .int .i64 ph, .slice (some ⟨gp, off + 1, none⟩) (k - 1) (cp - 1)] := ⟨_, rfl⟩
        have hV : PicB w6 g8 pw ph (.slice (some ⟨gp, off + 1, none⟩) (k - 1) (cp - 1)) := by rw [hw]; exact p8.setRow _ _ _
        have hlt8 := p8.lt
        have hw6 : Below w4.heap.size w5 w6 := by rw [hw]; exact below_setRow ((Below.refl _ _).mono (by omega)) k8 _
        have zw6 : w5.heap.size = w6.heap.size := by rw [hw]; simp
        have HW := Lib.hid hw; clear hw
        replace HB := Lib.hid (HB.out.trans (hw6.mono (by omega)))
        replace SP := Lib.hid (SP.out.below hw6 (by omega))
        replace Vp := Lib.hid (Vp.out.below hw6 (by omega))
        go_wp2_with (refine storeP g8 p8 rfl rfl rfl rfl rfl ?_; rw [← HW.out])
        have Vl := Lib.hid hV; clear hV HW hw6 p8
        have SL := Lib.hid (SP.out.tailG (by omega))
        refine wp_region_log 11 (fun _ w' => Below w6.heap.size w6 w') (fun w1 w2 => Below w1.heap.size w1 w2) [fun _ v => v = .pointer (some ⟨w1.heap.size, 0, none⟩), fun _ v => v = .int .i64 pw, fun _ v => v = .pointer (some ⟨w1.heap.size, 1, none⟩), fun _ v => v = .int .i64 ph, fun w' v => ∃ L, v = .slice (some ⟨L, 0, none⟩) 1 1 ∧ w'.heap[L]? = some (.cells #[.int .i64 256] 3 (0, 0)), fun _ v => v = .pointer (some ⟨w1.heap.size, 2, none⟩), fun _ v => v = .slice (some ⟨gp, off, none⟩) k cp, fun _ v => v = .slice (some ⟨gp, off + 1, none⟩) (k - 1) (cp - 1), fun w' v => ∃ a c, v = .slice a (1 + (k - 1)) c ∧ OwnK .i64 3 w6.heap.size w' (.slice a (1 + (k - 1)) c) (1 + (k - 1)) (fun i => if i = 0 then 256 else f (i - 1 + 1)), fun w' v => ∃ a c, v = .agg #[.int .i64 pw, .int .i64 ph, .slice a (1 + (k - 1)) c] ∧ OwnK .i64 3 w6.heap.size w' (.slice a (1 + (k - 1)) c) (1 + (k - 1)) (fun i => if i = 0 then 256 else f (i - 1 + 1)), fun w' v => ∃ g, v = .pointer (some ⟨g, 0, none⟩) ∧ w6.heap.size ≤ g ∧ PicB w' g 0 0 (.slice none 0 0)] (by kernel_rfl) (by kernel_rfl) (Below.refl _ _).drew ?_ ?_ ?_
        · intro V hV wq1 wq2 v hv hr
          simp only [List.mem_cons, List.not_mem_nil, or_false] at hV
          rcases hV with rfl | rfl | rfl | rfl | rfl | rfl | rfl | rfl | rfl | rfl | rfl
          · exact hv
          · exact hv
          · exact hv
          · exact hv
          · obtain ⟨L4, e4, q4⟩ := hv; exact ⟨L4, e4, (hr.block L4 (Array.getElem?_eq_some_iff.1 q4).1).trans q4⟩
          · exact hv
          · exact hv
          · exact hv
          · obtain ⟨a8, c8, e8, q8⟩ := hv; exact ⟨a8, c8, e8, q8.below hr (Nat.le_refl _)⟩
          · obtain ⟨a8, c8, e8, q8⟩ := hv; exact ⟨a8, c8, e8, q8.below hr (Nat.le_refl _)⟩
          · obtain ⟨g10, e10, k10, p10⟩ := hv; exact ⟨g10, e10, k10, p10.below hr p10.lt⟩
        · refine ⟨?_, ?_, ?_, ?_, ?_, ?_, ?_, ?_, ?_, ?_, ?_, trivial⟩
          · intro vs k1 wq1 hk1 hS1 hd fb hb K hK
            replace hb : fb = _ := hb
            subst hb
            refine ifW_yes (by kernel_rfl) ?_
            go_simp
            exact hK.out _ _ hS1 (Below.refl _ _) rfl
          · intro vs k1 wq1 hk1 hS1 hd fb hb K hK
            obtain ⟨d0, _⟩ := hd
            replace hb : fb = Act.put (_) (some 30) (vs 0) := hb
            have e0 : vs 0 = .pointer (some ⟨w1.heap.size, 0, none⟩) := d0
            rw [e0] at hb; clear e0 d0
            subst hb
            refine ifW_yes (by kernel_rfl) ?_
            have c := (Vp.out.below hS1 (by omega)).c0
            go_simp
            exact hK.out _ _ hS1 (Below.refl _ _) rfl
          · intro vs k1 wq1 hk1 hS1 hd fb hb K hK
            replace hb : fb = _ := hb
            subst hb
            refine ifW_yes (by kernel_rfl) ?_
            go_simp
            exact hK.out _ _ hS1 (Below.refl _ _) rfl
          · intro vs k1 wq1 hk1 hS1 hd fb hb K hK
            obtain ⟨d2, _⟩ := hd
            replace hb : fb = Act.put (_) (some 32) (vs 2) := hb
            have e2 : vs 2 = .pointer (some ⟨w1.heap.size, 1, none⟩) := d2
            rw [e2] at hb; clear e2 d2
            subst hb
            refine ifW_yes (by kernel_rfl) ?_
            have c := (Vp.out.below hS1 (by omega)).c1
            go_simp
            exact hK.out _ _ hS1 (Below.refl _ _) rfl
          · intro vs k1 wq1 hk1 hS1 hd fb hb K hK
            replace hb : fb = _ := hb
            subst hb
            refine ifW_yes (by kernel_rfl) ?_
            have hz1 := hS1.size
            go_simp
            exact hK.out _ _ (hS1.alloc hS1.size _) ((Below.refl _ _).alloc (Nat.le_refl _) _) ⟨wq1.heap.size, rfl, heap_alloc_new wq1 _⟩
          · intro vs k1 wq1 hk1 hS1 hd fb hb K hK
            replace hb : fb = _ := hb
            subst hb
            refine ifW_yes (by kernel_rfl) ?_
            go_simp
            exact hK.out _ _ hS1 (Below.refl _ _) rfl
          · intro vs k1 wq1 hk1 hS1 hd fb hb K hK
            obtain ⟨d5, _⟩ := hd
            replace hb : fb = Act.put (_) (some 35) (vs 5) := hb
            have e5 : vs 5 = .pointer (some ⟨w1.heap.size, 2, none⟩) := d5
            rw [e5] at hb; clear e5 d5
            subst hb
            refine ifW_yes (by kernel_rfl) ?_
            have c := (Vp.out.below hS1 (by omega)).c2
            go_simp
            exact hK.out _ _ hS1 (Below.refl _ _) rfl
          · intro vs k1 wq1 hk1 hS1 hd fb hb K hK
            obtain ⟨d6, _⟩ := hd
            replace hb : fb = Act.put (_) (some 36) (vs 6) := hb
            have e6 : vs 6 = .slice (some ⟨gp, off, none⟩) k cp := d6
            rw [e6] at hb; clear e6 d6
            subst hb
            refine ifW_yes (by kernel_rfl) ?_
            have hk1 : (1 : Int) ≤ (k : Int) := by omega
            go_simp
            exact hK.out _ _ hS1 (Below.refl _ _) rfl
          · intro vs k1 wq1 hk1 hS1 hd fb hb K hK
            obtain ⟨d4, d7, _⟩ := hd
            replace hb : fb = Act.put (Act.put (_) (some 34) (vs 4)) (some 37) (vs 7) := hb
            obtain ⟨L4, e4, q4⟩ := d4
            rw [e4] at hb; clear e4
            have e7 : vs 7 = .slice (some ⟨gp, off + 1, none⟩) (k - 1) (cp - 1) := d7
            rw [e7] at hb; clear e7 d7
            subst hb
            refine ifW_yes (by kernel_rfl) ?_
            have hz1 := hS1.size
            refine wp_append_two rfl L4 256 rfl (by rw [cell_of_row _ _ 0 _ _ _ q4]; rfl) rfl (SL.out.below hS1 (by omega)).sr (by omega) (by omega) (fun a8 c8 wq2 h8 hb2 => ?_)
            exact hK.out _ _ (hS1.trans (hb2.mono (by omega))) hb2 ⟨a8, c8, rfl, h8.base (by omega)⟩
          · intro vs k1 wq1 hk1 hS1 hd fb hb K hK
            obtain ⟨d1, d3, d8, _⟩ := hd
            replace hb : fb = Act.put (Act.put (Act.put (_) (some 31) (vs 1)) (some 33) (vs 3)) (some 38) (vs 8) := hb
            have e1 : vs 1 = .int .i64 pw := d1
            rw [e1] at hb; clear e1 d1
            have e3 : vs 3 = .int .i64 ph := d3
            rw [e3] at hb; clear e3 d3
            obtain ⟨a8, c8, e8, q8⟩ := d8
            rw [e8] at hb; clear e8
            subst hb
            refine ifW_yes (by kernel_rfl) ?_
            have hz1 := hS1.size
            go_simp
            exact hK.out _ _ hS1 (Below.refl _ _) ⟨a8, c8, rfl, q8⟩
          · intro vs k1 wq1 hk1 hS1 hd fb hb K hK
            replace hb : fb = _ := hb
            subst hb
            refine ifW_yes (by kernel_rfl) ?_
            have hz1 := hS1.size
            go_simp
            exact hK.out _ _ (hS1.alloc hS1.size _) ((Below.refl _ _).alloc (Nat.le_refl _) _) ⟨wq1.heap.size, rfl, hS1.size, PicB.new' rfl⟩
        · intro vs w7 hw7 hd fb hb
          have zw7 : w6.heap.size ≤ w7.heap.size := hw7.size
          replace HB := Lib.hid (HB.out.trans (hw7.mono (by omega)))
          replace SP := Lib.hid (SP.out.below hw7 (by omega))
          replace Vp := Lib.hid (Vp.out.below hw7 (by omega))
          replace Vl := Lib.hid (Vl.out.below hw7 (by omega))
          replace SL := Lib.hid (SL.out.below hw7 (by omega))
          obtain ⟨d0, d1, d2, d3, d4, d5, d6, d7, d8, d9, d10, _⟩ := hd
          replace hb : fb = Act.put (Act.put (Act.put (Act.put (Act.put (Act.put (Act.put (Act.put (Act.put (Act.put (Act.put (_) (some 30) (vs 0)) (some 31) (vs 1)) (some 32) (vs 2)) (some 33) (vs 3)) (some 34) (vs 4)) (some 35) (vs 5)) (some 36) (vs 6)) (some 37) (vs 7)) (some 38) (vs 8)) (some 39) (vs 9)) (some 6) (vs 10) := hb
          have e0 : vs 0 = .pointer (some ⟨w1.heap.size, 0, none⟩) := d0
          rw [e0] at hb; clear e0 d0
          have e1 : vs 1 = .int .i64 pw := d1
          rw [e1] at hb; clear e1 d1
          have e2 : vs 2 = .pointer (some ⟨w1.heap.size, 1, none⟩) := d2
          rw [e2] at hb; clear e2 d2
          have e3 : vs 3 = .int .i64 ph := d3
          rw [e3] at hb; clear e3 d3
          obtain ⟨L4, e4, q4⟩ := d4
          rw [e4] at hb; clear e4
          have e5 : vs 5 = .pointer (some ⟨w1.heap.size, 2, none⟩) := d5
          rw [e5] at hb; clear e5 d5
          have e6 : vs 6 = .slice (some ⟨gp, off, none⟩) k cp := d6
          rw [e6] at hb; clear e6 d6
          have e7 : vs 7 = .slice (some ⟨gp, off + 1, none⟩) (k - 1) (cp - 1) := d7
          rw [e7] at hb; clear e7 d7
          obtain ⟨a8, c8, e8, q8⟩ := d8
          rw [e8] at hb; clear e8
          obtain ⟨a9, c9, e9, q9⟩ := d9
          rw [e9] at hb; clear e9
          obtain ⟨g10, e10, k10, p10⟩ := d10
          rw [e10] at hb; clear e10
          subst hb
          simp only [List.drop_succ_cons, List.drop_zero, Act.put, List.setIfInBounds_toArray, List.set_cons_succ, List.set_cons_zero]
          clear hw7
          obtain ⟨w8, hw⟩ : ∃ x, x = w7.setRow g10 #[.int .i64 pw, .int .i64 ph, .slice a9 (1 + (k - 1)) c9] := ⟨_, rfl⟩
          have hV : PicB w8 g10 pw ph (.slice a9 (1 + (k - 1)) c9) := by rw [hw]; exact p10.setRow _ _ _
          have hlt10 := p10.lt
          have hw8 : Below w6.heap.size w7 w8 := by rw [hw]; exact below_setRow ((Below.refl _ _).mono (by omega)) k10 _
          have zw8 : w7.heap.size = w8.heap.size := by rw [hw]; simp
          have HW := Lib.hid hw; clear hw
          replace HB := Lib.hid (HB.out.trans (hw8.mono (by omega)))
          replace SP := Lib.hid (SP.out.below hw8 (by omega))
          replace Vp := Lib.hid (Vp.out.below hw8 (by omega))
          replace Vl := Lib.hid (Vl.out.below hw8 (by omega))
          replace SL := Lib.hid (SL.out.below hw8 (by omega))
          have SB := Lib.hid ((show OwnK .i64 3 w6.heap.size w8 (.slice a9 (1 + (k - 1)) c9) (1 + (k - 1)) (fun i => if i = 0 then 256 else f (i - 1 + 1)) by rw [HW.out]; exact own_row q9 p10 _).sn); clear q8 q9
          go_upto_region 11 with (refine storeP g10 p10 rfl rfl rfl rfl rfl ?_; rw [← HW.out])
          have Vb := Lib.hid hV; clear hV HW hw8 p10
          have c0 := Vp.out.c0; have c1 := Vp.out.c1; have c2 := Vp.out.c2
          have HN := Lib.hid (show PicB (w8.alloc (.cells #[.int .i64 0, .int .i64 0, .slice none 0 0] 25)) w8.heap.size 0 0 (.slice none 0 0) from PicB.new' rfl)
          obtain ⟨w9, hw⟩ : ∃ x, x = (w8.alloc (.cells #[.int .i64 0, .int .i64 0, .slice none 0 0] 25)).setRow w8.heap.size #[.int .i64 (pw - 1), .int .i64 ph, .slice (some ⟨gp, off, none⟩) k cp] := ⟨_, rfl⟩
          have hV : PicB w9 w8.heap.size (pw - 1) ph (.slice (some ⟨gp, off, none⟩) k cp) := by rw [hw]; exact HN.out.setRow _ _ _
          have hw9 : Below w8.heap.size w8 w9 := by rw [hw]; exact below_setRow ((Below.refl _ _).alloc (Nat.le_refl _) _) (Nat.le_refl _) _
          have zw9 : w8.heap.size < w9.heap.size := by rw [hw]; simp
          have HW := Lib.hid hw; clear hw
          replace HB := Lib.hid (HB.out.trans (hw9.mono (by omega)))
          replace SP := Lib.hid (SP.out.below hw9 (by omega))
          replace Vp := Lib.hid (Vp.out.below hw9 (by omega))
          replace Vl := Lib.hid (Vl.out.below hw9 (by omega))
          replace SL := Lib.hid (SL.out.below hw9 (by omega))
          replace Vb := Lib.hid (Vb.out.below hw9 (by omega))
          replace SB := Lib.hid (SB.out.below hw9 (by omega))
          have Vo := Lib.hid hV; clear hV hw9
          go_wp2_with (first | (refine storeP w8.heap.size HN.out rfl rfl rfl rfl rfl ?_; rw [← HW.out]) | refine loadP (g8) Vl.out rfl rfl rfl ?_)
          clear HW HN
          clear c0 c1 c2
          refine (iPictureValid_any pw ph (.slice (some ⟨gp, off + 1, none⟩) (k - 1) (cp - 1)) (k - 1) _ _ (SL.out.sr.mono (by omega)) (by omega)).mono ?_; rintro e w10 ⟨rfl, hw10⟩
          have zw10 : w9.heap.size ≤ w10.heap.size := hw10.size
          replace HB := Lib.hid (HB.out.trans (hw10.mono (by omega)))
          replace SP := Lib.hid (SP.out.below hw10 (by omega))
          replace Vp := Lib.hid (Vp.out.below hw10 (by omega))
          replace Vl := Lib.hid (Vl.out.below hw10 (by omega))
          replace SL := Lib.hid (SL.out.below hw10 (by omega))
          replace Vb := Lib.hid (Vb.out.below hw10 (by omega))
          replace SB := Lib.hid (SB.out.below hw10 (by omega))
          replace Vo := Lib.hid (Vo.out.below hw10 (by omega))
          clear hw10
          rw [less_no HOK.out]
          go_wp2_with (first | refine loadP (g10) Vb.out rfl rfl rfl ?_)
          refine (iPictureValid_any pw ph _ (1 + (k - 1)) _ _ (SB.out.sr.mono (by omega)) (by omega)).mono ?_; rintro e w11 ⟨rfl, hw11⟩
          have zw11 : w10.heap.size ≤ w11.heap.size := hw11.size
          replace HB := Lib.hid (HB.out.trans (hw11.mono (by omega)))
          replace SP := Lib.hid (SP.out.below hw11 (by omega))
          replace Vp := Lib.hid (Vp.out.below hw11 (by omega))
          replace Vl := Lib.hid (Vl.out.below hw11 (by omega))
          replace SL := Lib.hid (SL.out.below hw11 (by omega))
          replace Vb := Lib.hid (Vb.out.below hw11 (by omega))
          replace SB := Lib.hid (SB.out.below hw11 (by omega))
          replace Vo := Lib.hid (Vo.out.below hw11 (by omega))
          clear hw11
          rw [bad_no]
          go_wp2_with (first | refine loadP (w8.heap.size) Vo.out rfl rfl rfl ?_)
          refine (iPictureValid_any (pw - 1) ph _ k f _ (SP.out.sr.mono (by omega)) (by omega)).mono ?_; rintro e w12 ⟨rfl, hw12⟩
          have zw12 : w11.heap.size ≤ w12.heap.size := hw12.size
          replace HB := Lib.hid (HB.out.trans (hw12.mono (by omega)))
          replace SP := Lib.hid (SP.out.below hw12 (by omega))
          replace Vp := Lib.hid (Vp.out.below hw12 (by omega))
          replace Vl := Lib.hid (Vl.out.below hw12 (by omega))
          replace SL := Lib.hid (SL.out.below hw12 (by omega))
          replace Vb := Lib.hid (Vb.out.below hw12 (by omega))
          replace SB := Lib.hid (SB.out.below hw12 (by omega))
          replace Vo := Lib.hid (Vo.out.below hw12 (by omega))
          clear hw12
          rw [odd_no HOK.out]
          go_wp2_with fail
          go_ret
          exact ⟨rfl, HB.out⟩

end Go.Proofs.Ytinmfeflbaeodaa
