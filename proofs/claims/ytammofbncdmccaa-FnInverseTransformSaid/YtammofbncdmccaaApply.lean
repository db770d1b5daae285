/- The reference's transform: four nested loops; and that it equals the program's butterflies. -/
import Derived.Test.YtammofbncdmccaaHadamard
namespace Go.Proofs.Ytammofbncdmccaa
open Go.RowKit

/-- The sum of the first t terms of coefficient (u, v). -/
def psum (b : Nat → Int) (u v : Nat) : Nat → Int
  | 0 => 0
  | t + 1 => psum b u v t + sg (4 * u + t / 4) * sg (4 * v + t % 4) * b t
/-- What the reference's transform makes of a block. -/
def appI (b : Nat → Int) (i : Nat) : Int := psum b (i / 4) (i % 4) 16
theorem pm_mul (s t x : Int) (hs : s = 1 ∨ s = -1) (ht : t = 1 ∨ t = -1) : (s * t = 1 ∨ s * t = -1) ∧ (s * t * x = x ∨ s * t * x = -x) := by
  rcases hs with rfl | rfl <;> rcases ht with rfl | rfl <;> simp
theorem psum_bd {b : Nat → Int} (h : ∀ k, k < 16 → -4080 ≤ b k ∧ b k ≤ 4080) (u v : Nat) (hu : u < 4) (hv : v < 4) : ∀ t : Nat, t ≤ 16 → -(4080 * t : Int) ≤ psum b u v t ∧ psum b u v t ≤ 4080 * t
  | 0, _ => by simp [psum]
  | t + 1, ht => by
    have a := psum_bd h u v hu hv t (by omega)
    have c := h t (by omega)
    have p := (pm_mul (sg (4 * u + t / 4)) (sg (4 * v + t % 4)) (b t) (sg_pm _ (by omega)) (sg_pm _ (by omega))).2
    simp only [psum]
    omega

theorem hadI_eq (b : Nat → Int) : ∀ k, k < 16 → hadI b k = appI b k
  | 0, _ | 1, _ | 2, _ | 3, _ | 4, _ | 5, _ | 6, _ | 7, _ | 8, _ | 9, _ | 10, _ | 11, _ | 12, _ | 13, _ | 14, _ | 15, _ => by
    simp [hadI, had2, had1, bfly, appI, psum, sg, sgL]
    omega
  | n + 16, h => absurd h (by omega)

theorem psum_step (b : Nat → Int) (u v y x : Nat) (hx : x < 4) : psum b u v (4 * y + (x + 1)) = psum b u v (4 * y + x) + sgI u y * sgI v x * b (4 * y + x) := by
  have e1 : (4 * y + x) / 4 = y := by omega
  have e2 : (4 * y + x) % 4 = x := by omega
  have e3 : sgI u y = sg (4 * u + y) := by unfold sgI; congr 1
  have e4 : sgI v x = sg (4 * v + x) := by unfold sgI; congr 1
  rw [e3, e4, ← Nat.add_assoc]
  simp only [psum, e1, e2]

theorem l3Apply_any (b : Nat → Int) (w : World) (hb : ∀ k, k < 16 → -4080 ≤ b k ∧ b k ≤ 4080) :
    Calls Try.prog 28 #[.agg (VN 16 b)] w fun e w' => e = .returned (.agg (VN 16 (appI b))) ∧ Below w.heap.size w w' := by
  have HB := Lib.hid hb; clear hb
  go_enter Try.func28, Try.ntmps28
  go_wp2
  go_loopw [4] (fun i wr => ∃ u : Nat, u ≤ 4 ∧ i = .int .i64 u ∧ Blk wr w.heap.size 16 23 b ∧ Blk wr (w.heap.size + 1) 16 23 (fun _ => 0) ∧ Blk wr (w.heap.size + 2) 16 23 (fun i => if i < 4 * u then appI b i else 0) ∧ Below w.heap.size w wr) (fun i _ => 4 - (intOf i).toNat)
  case atStart =>
    refine ⟨0, by omega, rfl, ?_, ?_, ?_, ?_⟩
    · exact ((Blk.new w 16 _ b).alloc _).alloc _
    · rw [← zero16]
      exact (Blk.new' (by simp)).alloc _
    · rw [← zero16]
      exact Blk.new' (by simp)
    · exact (((Below.refl _ _).alloc (Nat.le_refl _) _).alloc (by simp) _).alloc (by simp; omega) _
  case round =>
    obtain ⟨u, hu, rfl, hA, hZ, hR, hbel⟩ := hrel
    by_cases hlt : u < 4
    · go_wp2
      obtain ⟨wo, rfl⟩ : ∃ wo : World, wo = wr := ⟨_, rfl⟩
      go_loopw [5] (fun i wr => ∃ v : Nat, v ≤ 4 ∧ i = .int .i64 v ∧ Blk wr w.heap.size 16 23 b ∧ Blk wr (w.heap.size + 1) 16 23 (fun _ => 0) ∧ Blk wr (w.heap.size + 2) 16 23 (fun i => if i < 4 * u + v then appI b i else 0) ∧ Below w.heap.size w wr) (fun i _ => 4 - (intOf i).toNat)
      case atStart => exact ⟨0, by omega, rfl, hA, hZ, hR, hbel⟩
      case round =>
        clear hA hZ hR hbel
        obtain ⟨v, hv, rfl, hA, hZ, hR, hbel⟩ := hrel
        by_cases hvl : v < 4
        · go_wp2
          go_loopw [6, 7] (fun n i wr => ∃ y : Nat, y ≤ 4 ∧ i = .int .i64 y ∧ n = .int .i64 (psum b u v (4 * y)) ∧ Blk wr w.heap.size 16 23 b ∧ Blk wr (w.heap.size + 1) 16 23 (fun _ => 0) ∧ Blk wr (w.heap.size + 2) 16 23 (fun i => if i < 4 * u + v then appI b i else 0) ∧ Below w.heap.size w wr) (fun _ i _ => 4 - (intOf i).toNat)
          case atStart => exact ⟨0, by omega, rfl, rfl, hA, hZ, hR, hbel⟩
          case round =>
            clear hA hZ hR hbel
            obtain ⟨y, hy, rfl, rfl, hA, hZ, hR, hbel⟩ := hrel
            by_cases hyl : y < 4
            · go_wp2
              go_loopw [6, 8] (fun n i wr => ∃ x : Nat, x ≤ 4 ∧ i = .int .i64 x ∧ n = .int .i64 (psum b u v (4 * y + x)) ∧ Blk wr w.heap.size 16 23 b ∧ Blk wr (w.heap.size + 1) 16 23 (fun _ => 0) ∧ Blk wr (w.heap.size + 2) 16 23 (fun i => if i < 4 * u + v then appI b i else 0) ∧ Below w.heap.size w wr) (fun _ i _ => 4 - (intOf i).toNat)
              case atStart => exact ⟨0, by omega, rfl, rfl, hA, hZ, hR, hbel⟩
              case round =>
                clear hA hZ hR hbel
                obtain ⟨x, hx, rfl, rfl, hA, hZ, hR, hbel⟩ := hrel
                by_cases hxl : x < 4
                · have c1 := hA.cell (4 * y + x) (by omega)
                  have hps := psum_bd HB.out u v hlt hvl (4 * y + x) (by omega)
                  have hbb := HB.out (4 * y + x) (by omega)
                  have hpm := pm_mul (sgI u y) (sgI v x) (b (4 * y + x)) (sgI_pm _ _ (by omega) (by omega) (by omega) (by omega)) (sgI_pm _ _ (by omega) (by omega) (by omega) (by omega))
                  have e1 : IntKind.i64.wrap (sgI u y * sgI v x) = sgI u y * sgI v x := IntWalk.i64_in _ (by omega)
                  have e2 : IntKind.i64.wrap (4 * (y : Int)) = 4 * (y : Int) := IntWalk.i64_in _ (by omega)
                  have e3 : IntKind.i64.wrap (4 * (y : Int) + x) = 4 * (y : Int) + x := IntWalk.i64_in _ (by omega)
                  have e4 : IntKind.i64.wrap (sgI u y * sgI v x * b (4 * y + x)) = sgI u y * sgI v x * b (4 * y + x) := IntWalk.i64_in _ (by omega)
                  have e5 : IntKind.i64.wrap (psum b u v (4 * y + x) + sgI u y * sgI v x * b (4 * y + x)) = psum b u v (4 * y + x) + sgI u y * sgI v x * b (4 * y + x) := IntWalk.i64_in _ (by omega)
                  have t1 : (4 * (y : Int) + x).toNat = 4 * y + x := by omega
                  have i0 : (0 : Int) ≤ 4 * (y : Int) + x := by omega
                  have i1 : 4 * (y : Int) + x < 16 := by omega
                  clear hpm hps hbb
                  go_wp2_with fail
                  go_quiet ((go_at_call 40; exact quietL (l3Sign_any _ _ _ (by omega) (by omega) (by omega) (by omega))))
                  clear e1 e2 e3 e4 e5 t1 i0 i1 c1
                  go_wp2_with fail
                  go_roundw
                  case rel => exact ⟨x + 1, by omega, by go_num, by rw [psum_step b u v y x hxl], hA.drewN _, hZ.drewN _, hR.drewN _, below_drewN hbel _⟩
                  case measure => simp [intOf]; omega
                · have HE := Lib.hid (show psum b u v (4 * y + x) = psum b u v (4 * (y + 1)) by congr 1; omega)
                  go_wp2_with fail
                  go_roundw
                  case rel => exact ⟨y + 1, by omega, by go_num, by rw [HE.out], hA, hZ, hR, hbel⟩
                  case measure => simp [intOf]; omega
            · have HE := Lib.hid (show psum b u v (4 * y) = appI b (4 * u + v) by unfold appI; congr 1 <;> omega)
              have c1 := hR.cell (4 * u + v) (by omega)
              have f1 := hR.frozen (4 * u + v)
              go_wp2_with fail
              go_roundw
              case rel =>
                refine ⟨v + 1, by omega, by go_num, hA.other (by omega), hZ.other (by omega), ?_, hbel.setCell (by simp; omega) _⟩
                refine (hR.set (4 * u + v) _).congr (fun j hj => ?_)
                by_cases e : j = 4 * u + v
                · subst e; simp [HE.out]
                · by_cases e2 : j < 4 * u + v
                  · rw [if_neg e, if_pos e2, if_pos (by omega)]
                  · rw [if_neg e, if_neg e2, if_neg (by omega)]
              case measure => simp [intOf]; omega
        · go_wp2_with fail
          go_roundw
          case rel => exact ⟨u + 1, by omega, by go_num, hA, hZ, hR.congr (fun j _ => by rw [show 4 * (u + 1) = 4 * u + v by omega]), hbel⟩
          case measure => simp [intOf]; omega
    · have hR' : Blk wr (w.heap.size + 2) 16 23 (appI b) := hR.congr (fun j hj => by rw [if_pos (by omega)])
      go_wp2_with (first | (refine wpList_load_row rfl 23 _ rfl (w.heap.size + 2) rfl 23 (VN 16 (appI b)) (0, 0) _ hR' Try.underlying23 rfl (info16 _) ?_) | (refine wpList_store_row rfl 23 _ _ rfl (w.heap.size + 1) (VN 16 (appI b)) rfl rfl 23 (VN 16 fun _ => 0) hZ (info16 _) (by rw [VN_size, VN_size]) (VN_one _ _) ?_))
      refine bodyPost_ret (v := .agg (VN 16 (appI b))) (results_cell_row Try.results28 _ _ (w.heap.size + 1) 23 _ (0, 0) _ rfl (hZ.setRow _) Try.underlying23 rfl (info16 _)) rfl ⟨rfl, below_setRow hbel (by omega) _⟩
end Go.Proofs.Ytammofbncdmccaa
