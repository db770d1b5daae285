/- Slices of runs in memory; the checker's functions on them. -/
import Derived.Test.YtogmlcmajecpgaaCountLaws
import Derived.Deep.MidRow
import Derived.Test.YtogmlcmajecpgaaLooseG
namespace Go.Proofs.Ytogmlcmajecpgaa
open Go.RowKit

def zr (l : List (Int × Int)) (i : Nat) : Int := (l.getD i (0, 0)).1
def lv (l : List (Int × Int)) (i : Nat) : Int := (l.getD i (0, 0)).2
theorem zr_at {l : List (Int × Int)} {i : Nat} (h : i < l.length) : zr l i = (l[i]'h).1 := by unfold zr; rw [List.getD_eq_getElem?_getD, List.getElem?_eq_getElem h]; rfl
theorem lv_at {l : List (Int × Int)} {i : Nat} (h : i < l.length) : lv l i = (l[i]'h).2 := by unfold lv; rw [List.getD_eq_getElem?_getD, List.getElem?_eq_getElem h]; rfl
/-- The slice v reads as the runs l. -/
def SrR (hi : Nat) (w : World) (v : Value) (l : List (Int × Int)) : Prop :=
  ∃ a cap, v = .slice a l.length cap ∧ l.length ≤ cap ∧ (0 < l.length → ∃ g off, a = some ⟨g, off, none⟩ ∧ g < hi ∧ ∀ i, i < l.length → w.cell? ⟨g, off + i * 2, none⟩ = some (.int .i64 (zr l i)) ∧ w.cell? ⟨g, off + i * 2 + 1, none⟩ = some (.int .i64 (lv l i)))
theorem SrR.kept {hi : Nat} {w w' : World} {v : Value} {l : List (Int × Int)} (h : SrR hi w v l) (hk : ∀ g, g < hi → w'.heap[g]? = w.heap[g]?) : SrR hi w' v l := by
  obtain ⟨a, cap, hv, hn, h⟩ := h
  refine ⟨a, cap, hv, hn, fun h0 => ?_⟩
  obtain ⟨g, off, ha, hg, hc⟩ := h h0
  exact ⟨g, off, ha, hg, fun i hi' => ⟨(World.cell?_of_block (w := w) (hk g hg)).trans (hc i hi').1, (World.cell?_of_block (w := w) (hk g hg)).trans (hc i hi').2⟩⟩
theorem SrR.below {hi C : Nat} {w w' : World} {v : Value} {l : List (Int × Int)} (h : SrR hi w v l) (hb : Below C w w') (hC : hi ≤ C) : SrR hi w' v l := h.kept fun g hg => hb.block g (by omega)
theorem SrR.mono {hi hi' : Nat} {w : World} {v : Value} {l : List (Int × Int)} (h : SrR hi w v l) (h2 : hi ≤ hi') : SrR hi' w v l := by
  obtain ⟨a, cap, hv, hn, h⟩ := h
  refine ⟨a, cap, hv, hn, fun h0 => ?_⟩
  obtain ⟨g, off, ha, hg, hc⟩ := h h0
  exact ⟨g, off, ha, by omega, hc⟩

def leftR (left : Int) (n : Nat) : Int := if left < n then -1 else left - n
theorem szRunS_any (a : Option Addr) (n cap : Nat) (left : Int) (w : World) (hn : n ≤ maxLen) (h0 : 0 ≤ left) (h1 : left ≤ 1048576) :
    Calls Try.prog 20 #[.slice a n cap, .int .i64 left] w fun e w' => e = .returned (.int .i64 (leftR left n)) ∧ w = w' := by
  unfold maxLen at hn
  by_cases h : left < n
  · go_enter Try.func20, Try.ntmps20
    go_wp2
    go_ret
    exact ⟨ret_int (by unfold leftR; rw [if_pos h]), rfl⟩
  · go_enter Try.func20, Try.ntmps20
    go_wp2
    go_ret
    exact ⟨ret_int (by unfold leftR; rw [if_neg (by omega)]), rfl⟩
/-- A variable of one run. -/
def RunB (w : World) (g : Nat) (t : TypeId) (x y : Int) : Prop := w.heap[g]? = some (.cells #[.int .i64 x, .int .i64 y] t (0, 0))
theorem RunB.new' {w : World} {g : Nat} {t : TypeId} {x y : Int} (hg : g = w.heap.size) : RunB (w.alloc (.cells #[.int .i64 x, .int .i64 y] t)) g t x y := by subst hg; exact heap_alloc_new w _
theorem RunB.alloc {w : World} {g : Nat} {t : TypeId} {x y : Int} (h : RunB w g t x y) (o : Obj) : RunB (w.alloc o) g t x y := (Below.heap_alloc w o g (Array.getElem?_eq_some_iff.1 h).1).trans h
theorem infoR (x y : Int) : (Try.prog.info? 48).map (·.size) = some (#[Value.int .i64 x, .int .i64 y]).size := by kernel_rfl
theorem retR {fn : Func} {R : Ending → World → Prop} {a : Act} {w : World} {p : Tmp} {x y : Int} (g : Nat) (hr : fn.results = #[.cell p 48]) (hB : RunB w g 48 x y) (hp : a.tmps.getD p undef = .pointer (some ⟨g, 0, none⟩)) (hd : a.defers = [])
    (hR : R (.returned (.agg #[.int .i64 x, .int .i64 y])) w) : bodyPost Try.prog fn R .ret a w :=
  bodyPost_ret (results_cell_row hr _ _ g 48 _ (0, 0) _ hp hB Try.underlying48 rfl (infoR _ _)) hd hR
theorem toRun_any (x y : Int) (w : World) :
    Calls Try.prog 36 #[.agg #[.int .i64 x, .int .i64 y]] w fun e w' => e = .returned (.agg #[.int .i64 x, .int .i64 y]) ∧ Below w.heap.size w w' := by
  go_enter Try.func36, Try.ntmps36
  go_wp2
  refine retR (w.heap.size + 1) Try.results36 ((RunB.new' (by simp)).alloc _) rfl rfl ⟨rfl, (((Below.refl _ _).alloc (Nat.le_refl _) _).alloc (by simp) _).alloc (by simp; omega) _⟩
theorem eqRun_yes (x y : Int) (w : World) :
    Calls Try.prog 37 #[.agg #[.int .i64 x, .int .i64 y], .agg #[.int .i64 x, .int .i64 y]] w fun e w' => e = .returned (.bool true) ∧ Below w.heap.size w w' := by
  go_enter Try.func37, Try.ntmps37
  go_wp2
  go_ret
  exact ⟨rfl, ((Below.refl _ _).alloc (Nat.le_refl _) _).alloc (by simp) _⟩
theorem eqRunS_yes (u v : Value) (l : List (Int × Int)) (w : World) (hu : SrR w.heap.size w u l) (hv : SrR w.heap.size w v l) (hn : l.length ≤ 1000000000000) :
    Calls Try.prog 25 #[u, v] w fun e w' => e = .returned (.bool true) ∧ Below w.heap.size w w' := by
  obtain ⟨a, cap, rfl, _, hc⟩ := hu
  obtain ⟨a', cap', rfl, _, hc'⟩ := hv
  obtain ⟨n, hl⟩ : ∃ n, l.length = n := ⟨_, rfl⟩
  rw [hl] at hc hc' hn ⊢
  have HC := Lib.hid hc; have HC' := Lib.hid hc'; clear hc hc'
  go_enter Try.func25, Try.ntmps25
  go_wp2
  go_loopw [5] (fun i wr => ∃ k : Nat, k ≤ n ∧ i = .int .i64 k ∧ Below w.heap.size w wr) (fun i _ => n - (intOf i).toNat)
  case atStart => exact ⟨0, by omega, rfl, Below.refl _ _⟩
  case round =>
    obtain ⟨k, hk, rfl, hb⟩ := hrel
    by_cases hlt : k < n
    · obtain ⟨g, off, rfl, hg, hcell⟩ := HC.out (by omega)
      obtain ⟨g', off', rfl, hg', hcell'⟩ := HC'.out (by omega)
      have c1 := (hb.cell (p := ⟨g, off + k * 2, none⟩) hg).trans (hcell k hlt).1
      have c2 := (hb.cell (p := ⟨g, off + k * 2 + 1, none⟩) hg).trans (hcell k hlt).2
      have d1 := (hb.cell (p := ⟨g', off' + k * 2, none⟩) hg').trans (hcell' k hlt).1
      have d2 := (hb.cell (p := ⟨g', off' + k * 2 + 1, none⟩) hg').trans (hcell' k hlt).2
      have hk1 : (k : Int) < n := by omega
      have hk0 : (0 : Int) ≤ k := by omega
      clear hcell hcell' HC HC'
      obtain ⟨x, hx⟩ : ∃ x, zr l k = x := ⟨_, rfl⟩
      obtain ⟨y, hy⟩ : ∃ y, lv l k = y := ⟨_, rfl⟩
      rw [hx] at c1 d1; rw [hy] at c2 d2
      clear hx hy
      have hg1 : g < wr.heap.size := Nat.lt_of_lt_of_le hg hb.size
      have hg1' : g' < wr.heap.size := Nat.lt_of_lt_of_le hg' hb.size
      go_wp2_with fail
      refine wp_region_lo 10 (fun _ w' => Below wr.heap.size wr w') (fun w1 w2 => Below w1.heap.size w1 w2) [(fun _ v => v = .slice (some ⟨g, off, none⟩) n cap), (fun _ v => v = .int .i64 (k : Int)), (fun _ v => v = .pointer (some ⟨g, off + k * 2, none⟩)), (fun _ v => v = .agg #[.int .i64 x, .int .i64 y]), (fun _ v => v = .slice (some ⟨g', off', none⟩) n cap'), (fun _ v => v = .int .i64 (k : Int)), (fun _ v => v = .pointer (some ⟨g', off' + k * 2, none⟩)), (fun _ v => v = .agg #[.int .i64 x, .int .i64 y]), (fun _ v => v = .bool true), (fun _ v => v = .bool false)] (by kernel_rfl) (by kernel_rfl) (Below.refl _ _).drew ?_ ?_ ?_
      · intro V hV w1 w2 v hv hr
        simp only [List.mem_cons, List.not_mem_nil, or_false] at hV
        rcases hV with rfl | rfl | rfl | rfl | rfl | rfl | rfl | rfl | rfl | rfl
        · exact hv
        · exact hv
        · exact hv
        · exact hv
        · exact hv
        · exact hv
        · exact hv
        · exact hv
        · exact hv
        · exact hv
      · refine ⟨?_, ?_, ?_, ?_, ?_, ?_, ?_, ?_, ?_, ?_, trivial⟩
        · intro vs k1 w1 hk1 hS1 hd fb hb K hK
          replace hb : fb = _ := hb
          subst hb
          go_simp
          exact hK.out _ _ hS1 (Below.refl _ _) rfl
        · intro vs k1 w1 hk1 hS1 hd fb hb K hK
          replace hb : fb = _ := hb
          subst hb
          go_simp
          exact hK.out _ _ hS1 (Below.refl _ _) rfl
        · intro vs k1 w1 hk1 hS1 hd fb hb K hK
          obtain ⟨d0, d1, _⟩ := hd
          replace hb : fb = Act.put (Act.put (_) (some 17) (vs 0)) (some 18) (vs 1) := hb
          have e0 : vs 0 = .slice (some ⟨g, off, none⟩) n cap := d0
          rw [e0] at hb; clear e0 d0
          have e1 : vs 1 = .int .i64 (k : Int) := d1
          rw [e1] at hb; clear e1 d1
          subst hb
          go_simp
          exact hK.out _ _ hS1 (Below.refl _ _) rfl
        · intro vs k1 w1 hk1 hS1 hd fb hb K hK
          obtain ⟨d2, _⟩ := hd
          replace hb : fb = Act.put (_) (some 19) (vs 2) := hb
          have e2 : vs 2 = .pointer (some ⟨g, off + k * 2, none⟩) := d2
          rw [e2] at hb; clear e2 d2
          subst hb
          have e1 := (hS1.cell (p := _) hg1).trans c1
          have e2 := (hS1.cell (p := _) hg1).trans c2
          go_simp
          exact hK.out _ _ hS1 (Below.refl _ _) rfl
        · intro vs k1 w1 hk1 hS1 hd fb hb K hK
          replace hb : fb = _ := hb
          subst hb
          go_simp
          exact hK.out _ _ hS1 (Below.refl _ _) rfl
        · intro vs k1 w1 hk1 hS1 hd fb hb K hK
          replace hb : fb = _ := hb
          subst hb
          go_simp
          exact hK.out _ _ hS1 (Below.refl _ _) rfl
        · intro vs k1 w1 hk1 hS1 hd fb hb K hK
          obtain ⟨d4, d5, _⟩ := hd
          replace hb : fb = Act.put (Act.put (_) (some 21) (vs 4)) (some 22) (vs 5) := hb
          have e4 : vs 4 = .slice (some ⟨g', off', none⟩) n cap' := d4
          rw [e4] at hb; clear e4 d4
          have e5 : vs 5 = .int .i64 (k : Int) := d5
          rw [e5] at hb; clear e5 d5
          subst hb
          go_simp
          exact hK.out _ _ hS1 (Below.refl _ _) rfl
        · intro vs k1 w1 hk1 hS1 hd fb hb K hK
          obtain ⟨d6, _⟩ := hd
          replace hb : fb = Act.put (_) (some 23) (vs 6) := hb
          have e6 : vs 6 = .pointer (some ⟨g', off' + k * 2, none⟩) := d6
          rw [e6] at hb; clear e6 d6
          subst hb
          have e1 := (hS1.cell (p := _) hg1').trans d1
          have e2 := (hS1.cell (p := _) hg1').trans d2
          go_simp
          exact hK.out _ _ hS1 (Below.refl _ _) rfl
        · intro vs k1 w1 hk1 hS1 hd fb hb K hK
          obtain ⟨d3, d7, _⟩ := hd
          replace hb : fb = Act.put (Act.put (_) (some 20) (vs 3)) (some 24) (vs 7) := hb
          have e3 : vs 3 = .agg #[.int .i64 x, .int .i64 y] := d3
          rw [e3] at hb; clear e3 d3
          have e7 : vs 7 = .agg #[.int .i64 x, .int .i64 y] := d7
          rw [e7] at hb; clear e7 d7
          subst hb
          go_simp
          refine (eqRun_yes _ _ _).mono ?_; rintro e wz ⟨rfl, hz⟩
          exact hK.out _ _ (hS1.trans (hz.mono hS1.size)) hz rfl
        · intro vs k1 w1 hk1 hS1 hd fb hb K hK
          obtain ⟨d8, _⟩ := hd
          replace hb : fb = Act.put (_) (some 25) (vs 8) := hb
          have e8 : vs 8 = .bool true := d8
          rw [e8] at hb; clear e8 d8
          subst hb
          go_simp
          exact hK.out _ _ hS1 (Below.refl _ _) rfl
      · intro vs w1 hS1 hd fb hb
        obtain ⟨d0, d1, d2, d3, d4, d5, d6, d7, d8, d9, _⟩ := hd
        replace hb : fb = Act.put (Act.put (Act.put (Act.put (Act.put (Act.put (Act.put (Act.put (Act.put (Act.put (_) (some 17) (vs 0)) (some 18) (vs 1)) (some 19) (vs 2)) (some 20) (vs 3)) (some 21) (vs 4)) (some 22) (vs 5)) (some 23) (vs 6)) (some 24) (vs 7)) (some 25) (vs 8)) (some 26) (vs 9) := hb
        have e0 : vs 0 = .slice (some ⟨g, off, none⟩) n cap := d0
        rw [e0] at hb; clear e0 d0
        have e1 : vs 1 = .int .i64 (k : Int) := d1
        rw [e1] at hb; clear e1 d1
        have e2 : vs 2 = .pointer (some ⟨g, off + k * 2, none⟩) := d2
        rw [e2] at hb; clear e2 d2
        have e3 : vs 3 = .agg #[.int .i64 x, .int .i64 y] := d3
        rw [e3] at hb; clear e3 d3
        have e4 : vs 4 = .slice (some ⟨g', off', none⟩) n cap' := d4
        rw [e4] at hb; clear e4 d4
        have e5 : vs 5 = .int .i64 (k : Int) := d5
        rw [e5] at hb; clear e5 d5
        have e6 : vs 6 = .pointer (some ⟨g', off' + k * 2, none⟩) := d6
        rw [e6] at hb; clear e6 d6
        have e7 : vs 7 = .agg #[.int .i64 x, .int .i64 y] := d7
        rw [e7] at hb; clear e7 d7
        have e8 : vs 8 = .bool true := d8
        rw [e8] at hb; clear e8 d8
        have e9 : vs 9 = .bool false := d9
        rw [e9] at hb; clear e9 d9
        subst hb
        simp only [List.drop_succ_cons, List.drop_zero, Act.put, List.setIfInBounds_toArray, List.set_cons_succ, List.set_cons_zero]
        have hb3 := hb.trans (hS1.mono hb.size)
        clear c1 c2 d1 d2 hb hS1 hg1 hg1'
        go_wp2_with fail
        go_roundw
        case rel => exact ⟨k + 1, by omega, by go_num, hb3⟩
        case measure => simp [intOf]; omega
    · go_wp2_with fail
      go_ret
      exact ⟨rfl, hb⟩
end Go.Proofs.Ytogmlcmajecpgaa
