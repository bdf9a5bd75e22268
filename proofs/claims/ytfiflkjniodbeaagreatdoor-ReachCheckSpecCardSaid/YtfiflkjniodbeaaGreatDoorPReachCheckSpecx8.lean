/- Printed by a program for this claim: the walks of functions that the law reaches. -/
import Derived.Test.YtfiflkjniodbeaaGreatDoorPReachCheckSpecx0
namespace Go.Proofs.YtfiflkjniodbeaaGreatDoor.PReachCheckSpec
open Go.RowKit Go.Proofs.YtfiflkjniodbeaaGreatDoorW.PrintWords Go.Proofs.YtfiflkjniodbeaaGreatDoorW.PrintLast Go.Proofs.YtfiflkjniodbeaaGreatDoorW.PrintMore
attribute [local go_sem] max2_int min2_int max_two min_two max_three min_three max_four min_four   -- for this text's walks alone
set_option linter.unusedVariables false
set_option linter.unusedSimpArgs false

/-! ### assizeref28_finals: function 30 -/
def assizeref28_finals.l0 : Nat → List Int → List Int → Int → Int → Int → List Int → List Int → List (S53) → Int → Int → Option (List Int)
  | 0, _, _, _, _, _, _, _, _, _, _ => none
  | k + 1, x1, x5, x6, x182000, x182001, x182002, x182003, x182004, x182005, x182006 => if x6 < (x1.length : Int) then (if 0 ≤ x6 then (if x6 < (x182004.length : Int) then (if (rd x1 x6) = 1 then (if 0 ≤ ((rd_T53 x182004 x6).f0) then (if ((rd_T53 x182004 x6).f0) < (x5.length : Int) then (assizeref28_finals.l0 k x1 (x5.set (((rd_T53 x182004 x6).f0) : Int).toNat (wrap64 ((rd x5 ((rd_T53 x182004 x6).f0)) + x182000))) (wrap64 (x6 + 1)) x182000 x182001 x182002 x182003 x182004 x182005 x182006) else (none)) else (none)) else (if (rd x1 x6) = 2 then (if 0 ≤ ((rd_T53 x182004 x6).f0) then (if ((rd_T53 x182004 x6).f0) < (x5.length : Int) then ((some (x5.set (((rd_T53 x182004 x6).f0) : Int).toNat (wrap64 ((rd x5 ((rd_T53 x182004 x6).f0)) + x182001)) : List Int)).bind fun y194 => (if 0 ≤ ((rd_T53 x182004 x6).f1) then (if ((rd_T53 x182004 x6).f1) < (x5.length : Int) then (assizeref28_finals.l0 k x1 (y194.set (((rd_T53 x182004 x6).f1) : Int).toNat (wrap64 ((rd y194 ((rd_T53 x182004 x6).f1)) + x182001))) (wrap64 (x6 + 1)) x182000 x182001 x182002 x182003 x182004 x182005 x182006) else (none)) else (none))) else (none)) else (none)) else (if (rd x1 x6) = 3 then (if 0 ≤ ((rd_T53 x182004 x6).f1) then (if ((rd_T53 x182004 x6).f1) < (x5.length : Int) then (assizeref28_finals.l0 k x1 (x5.set (((rd_T53 x182004 x6).f1) : Int).toNat (wrap64 ((rd x5 ((rd_T53 x182004 x6).f1)) + x182000))) (wrap64 (x6 + 1)) x182000 x182001 x182002 x182003 x182004 x182005 x182006) else (none)) else (none)) else (assizeref28_finals.l0 k x1 x5 (wrap64 (x6 + 1)) x182000 x182001 x182002 x182003 x182004 x182005 x182006)))) else (none)) else (none)) else (some x5)
def assizeref28_finals.f (k : Nat) (a0_0 : Int) (a0_1 : Int) (l0_2 : List Int) (l0_3 : List Int) (l0_4 : List (S53)) (a0_5 : Int) (a0_6 : Int) (l1 : List Int) : Option (List Int) := (some (([] : List Int) : List Int)).bind fun y182 => (if y182.length + l0_3.length < 17592186044416 then (assizeref28_finals.l0 k l1 (y182 ++ l0_3) 0 a0_0 a0_1 l0_2 l0_3 l0_4 a0_5 a0_6) else (none))
theorem assizeref28_finals.mono_l : ∀ k, (∀ y0 y1 y2 y3 y4 y5 y6 y7 y8 y9, LeO (assizeref28_finals.l0 k y0 y1 y2 y3 y4 y5 y6 y7 y8 y9) (assizeref28_finals.l0 (k + 1) y0 y1 y2 y3 y4 y5 y6 y7 y8 y9))
  | 0 => fun _ _ _ _ _ _ _ _ _ _ r h => by simp [assizeref28_finals.l0] at h
  | k + 1 => by
    have ih0 := assizeref28_finals.mono_l k
    · intro y0 y1 y2 y3 y4 y5 y6 y7 y8 y9
      unfold assizeref28_finals.l0
      repeat' first
      | (with_reducible exact ih0 _ _ _ _ _ _ _ _ _ _)
      | (with_reducible exact LeO.refl _)
      | (with_reducible exact LeO.none _)
      | (with_reducible refine LeO.ite ?_ ?_)
      | (with_reducible refine LeO.bind ?_ (fun _ => ?_))
      | exact ih0 _ _ _ _ _ _ _ _ _ _
      | exact LeO.none _
      | refine LeO.ite ?_ ?_
      | refine LeO.bind ?_ (fun _ => ?_)
theorem assizeref28_finals.mono : ∀ a0 a1 a2 a3 a4 a5 a6 a7 k, LeO (assizeref28_finals.f k a0 a1 a2 a3 a4 a5 a6 a7) (assizeref28_finals.f (k + 1) a0 a1 a2 a3 a4 a5 a6 a7) := by
  intro a0 a1 a2 a3 a4 a5 a6 a7 k
  have ih0 := assizeref28_finals.mono_l k
  unfold assizeref28_finals.f
  repeat' first
      | (with_reducible exact ih0 _ _ _ _ _ _ _ _ _ _)
      | (with_reducible exact LeO.refl _)
      | (with_reducible exact LeO.none _)
      | (with_reducible refine LeO.ite ?_ ?_)
      | (with_reducible refine LeO.bind ?_ (fun _ => ?_))
      | exact ih0 _ _ _ _ _ _ _ _ _ _
      | exact LeO.none _
      | refine LeO.ite ?_ ?_
      | refine LeO.bind ?_ (fun _ => ?_)
def assizeref28_finals.T8 : Bool × List (List Nat × List Nat) := (true, [([], []), ([], []), ([1], [1]), ([], []), ([], []), ([4], [4]), ([3, 5], [3, 5]), ([6], [6]), ([], []), ([8], [8]), ([7, 9], [7, 9]), ([0, 2, 0, 1, 2, 3, 4, 5, 6, 7, 8, 9, 10], [0, 2]), ([11, 10, 0, 1, 2, 3, 4, 5, 6, 7, 8, 9, 10], [10, 11])])
def assizeref28_finals.B8 : List Nat := [0, 0, 2, 0, 0, 16, 56, 120, 0, 256, 1016, 2047, 4095]
theorem assizeref28_finals.tab8 : rtab .any (opsOf Tryz.f30 8) = assizeref28_finals.T8 := by kernel_rfl
theorem assizeref28_finals.bits8 : waitsOk assizeref28_finals.T8.2 assizeref28_finals.B8 = true := by kernel_rfl
def assizeref28_finals.T10 : Bool × List (List Nat × List Nat) := (true, [([], []), ([], []), ([1], [1]), ([], []), ([], []), ([4], [4]), ([3, 5], [3, 5]), ([6], [6]), ([], []), ([8], [8]), ([7, 9], [7, 9]), ([0, 2, 0, 1, 2, 3, 4, 5, 6, 7, 8, 9, 10], [0, 2]), ([11, 10, 0, 1, 2, 3, 4, 5, 6, 7, 8, 9, 10], [10, 11])])
def assizeref28_finals.B10 : List Nat := [0, 0, 2, 0, 0, 16, 56, 120, 0, 256, 1016, 2047, 4095]
theorem assizeref28_finals.tab10 : rtab .any (opsOf Tryz.f30 10) = assizeref28_finals.T10 := by kernel_rfl
theorem assizeref28_finals.bits10 : waitsOk assizeref28_finals.T10.2 assizeref28_finals.B10 = true := by kernel_rfl
def assizeref28_finals.T11 : Bool × List (List Nat × List Nat) := (true, [([], []), ([], []), ([1], [1]), ([], []), ([], []), ([4], [4]), ([3, 5], [3, 5]), ([6], [6]), ([], []), ([8], [8]), ([7, 9], [7, 9]), ([0, 2, 0, 1, 2, 3, 4, 5, 6, 7, 8, 9, 10], [0, 2]), ([11, 10, 0, 1, 2, 3, 4, 5, 6, 7, 8, 9, 10], [10, 11])])
def assizeref28_finals.B11 : List Nat := [0, 0, 2, 0, 0, 16, 56, 120, 0, 256, 1016, 2047, 4095]
theorem assizeref28_finals.tab11 : rtab .any (opsOf Tryz.f30 11) = assizeref28_finals.T11 := by kernel_rfl
theorem assizeref28_finals.bits11 : waitsOk assizeref28_finals.T11.2 assizeref28_finals.B11 = true := by kernel_rfl
def assizeref28_finals.T13 : Bool × List (List Nat × List Nat) := (true, [([], []), ([], []), ([1], [1]), ([], []), ([], []), ([4], [4]), ([3, 5], [3, 5]), ([6], [6]), ([], []), ([8], [8]), ([7, 9], [7, 9]), ([0, 2, 0, 1, 2, 3, 4, 5, 6, 7, 8, 9, 10], [0, 2]), ([11, 10, 0, 1, 2, 3, 4, 5, 6, 7, 8, 9, 10], [10, 11])])
def assizeref28_finals.B13 : List Nat := [0, 0, 2, 0, 0, 16, 56, 120, 0, 256, 1016, 2047, 4095]
theorem assizeref28_finals.tab13 : rtab .any (opsOf Tryz.f30 13) = assizeref28_finals.T13 := by kernel_rfl
theorem assizeref28_finals.bits13 : waitsOk assizeref28_finals.T13.2 assizeref28_finals.B13 = true := by kernel_rfl
set_option maxHeartbeats 8000000 in
set_option maxRecDepth 100000 in
theorem assizeref28_finals.calls (k : Nat) (a0_0 : Int) (a0_1 : Int) (A0_2 : Option Addr) (c0_2 : Nat) (l0_2 : List Int) (A0_3 : Option Addr) (c0_3 : Nat) (l0_3 : List Int) (A0_4 : Option Addr) (c0_4 : Nat) (l0_4 : List (S53)) (a0_5 : Int) (a0_6 : Int) (A1 : Option Addr) (c1 : Nat) (l1 : List Int) (r : List Int) (w : World) (hr0_2 : Kd.C (Kd.int .i64) w A0_2 l0_2.length l0_2) (hc0_2 : l0_2.length ≤ c0_2) (hr0_3 : Kd.C (Kd.int .i64) w A0_3 l0_3.length l0_3) (hc0_3 : l0_3.length ≤ c0_3) (hr0_4 : Kd.C k53 w A0_4 l0_4.length l0_4) (hc0_4 : l0_4.length ≤ c0_4) (hr1 : Kd.C (Kd.int .i64) w A1 l1.length l1) (hc1 : l1.length ≤ c1) (h : assizeref28_finals.f k a0_0 a0_1 l0_2 l0_3 l0_4 a0_5 a0_6 l1 = some r) :
    Calls Tryz.prog 30 #[.agg #[.int .i64 a0_0, .int .i64 a0_1, .slice A0_2 l0_2.length c0_2, .slice A0_3 l0_3.length c0_3, .slice A0_4 l0_4.length c0_4, .int .i64 a0_5, .int .i64 a0_6], .slice A1 l1.length c1] w fun e w' => ∃ v0_ : Value, e = .returned (v0_) ∧ Kd.R (Kd.int .i64) 3 w' w.heap.size (fun _ => True) v0_ r ∧ Below w.heap.size w w' := by
  have hu25 := Tryz.underlying25
  have hu53 := Tryz.underlying53
  have HR0_2 := Aside0.mk hr0_2
  have HC0_2 := Aside0.mk hc0_2
  clear hr0_2 hc0_2
  have HR0_3 := Aside0.mk hr0_3
  have HC0_3 := Aside0.mk hc0_3
  clear hr0_3 hc0_3
  have HR0_4 := Aside0.mk hr0_4
  have HC0_4 := Aside0.mk hc0_4
  clear hr0_4 hc0_4
  have HR1 := Aside0.mk hr1
  have HC1 := Aside0.mk hc1
  clear hr1 hc1
  have HB := Aside0.mk (Below.refl w.heap.size w)
  have H : ((some (([] : List Int) : List Int)).bind fun y182 => (if y182.length + l0_3.length < 17592186044416 then (assizeref28_finals.l0 k l1 (y182 ++ l0_3) 0 a0_0 a0_1 l0_2 l0_3 l0_4 a0_5 a0_6) else (none))) = some r := h
  clear h
  obtain ⟨y182, hy182⟩ : ∃ y_ : List Int, y_ = (([] : List Int)) := ⟨_, rfl⟩
  replace H : (if y182.length + l0_3.length < 17592186044416 then (assizeref28_finals.l0 k l1 (y182 ++ l0_3) 0 a0_0 a0_1 l0_2 l0_3 l0_4 a0_5 a0_6) else (none)) = some r := by first | (rw [hy182]; with_reducible exact H) | (have H2_ := (Option.bind_some _ _).symm.trans H; rw [hy182]; with_reducible exact H2_) | (have H2_ := (Option.bind_some _ _).symm.trans H; with_reducible exact H2_) | with_reducible exact H | (rw [hy182]; exact H) | exact H
  have Ny182 := Aside0.mk hy182
  clear hy182
  by_cases c3 : y182.length + l0_3.length < 17592186044416
  · rw [if_pos c3] at H
    have LMc3 := Aside0.mk c3
    clear c3
    obtain ⟨y185, hy185⟩ : ∃ y_ : List Int, y_ = (y182 ++ l0_3) := ⟨_, rfl⟩
    replace H : (assizeref28_finals.l0 k l1 y185 0 a0_0 a0_1 l0_2 l0_3 l0_4 a0_5 a0_6) = some r := by first | (rw [hy185]; with_reducible exact H) | (have H2_ := (Option.bind_some _ _).symm.trans H; rw [hy185]; with_reducible exact H2_) | (have H2_ := (Option.bind_some _ _).symm.trans H; with_reducible exact H2_) | with_reducible exact H | (rw [hy185]; exact H) | exact H
    have Ny185 := Aside0.mk hy185
    clear hy185
    have H' := Aside0.mk H
    clear H
    go_enter Tryz.func30, Tryz.ntmps30
    go_wp2_with (first | ((with_reducible refine gate_dst (N := 2) rfl ?_); refine box_event ?hg (N := 2) ?hd (cs := #[.int .i64 a0_0, .int .i64 a0_1, .slice A0_2 l0_2.length c0_2, .slice A0_3 l0_3.length c0_3, .slice A0_4 l0_4.length c0_4, .int .i64 a0_5, .int .i64 a0_6]) (t := 25) ?hr ?_; (case hd => rfl); (case hg => rfl); (case hr => first | (go_simp; done) | (go_simp; rfl)); intro gb181 hg w4 hbox hb; have n0_ := Aside0.mk (below_step (by repeat (first | (with_reducible first | exact HB.out | apply below_alloc | apply pw_below_drewN | apply below_drew1) | exact HB.out)) hb); have n1_ := Aside0.mk (hbox); have n2_ := Aside0.mk ((by rw [hg]; exact (below_size (by repeat (first | (with_reducible first | exact HB.out | apply below_alloc | apply pw_below_drewN | apply below_drew1) | exact HB.out))) : w.heap.size ≤ gb181)); have n3_ := Aside0.mk ((by rw [hg]; exact (below_size (by repeat (first | (with_reducible first | exact HB.out | apply below_alloc | apply pw_below_drewN | apply below_drew1) | exact HB.out))) : w.heap.size ≤ gb181)); clear HB; have HB := n0_; have BK181 := n1_; have GW181 := n2_; have GE181 := n3_; clear n0_ n1_ n2_ n3_; clear hb hbox hg) | ((with_reducible refine gate_dst (N := 8) rfl ?_); refine Kd.R_lit (Kd.int .i64) _ 3 ?hg (N := 8) ?hd (xs := ([] : List Int)) (inner := []) (ok := fun _ => True) (okp := fun _ => True) ?hr ?hp (fun _ hk => hk) trivial (Below.refl _ _) (Nat.le_refl _) (by simp) ?_; (case hd => rfl); (case hg => rfl); (case hr => first | (go_simp; done) | (go_simp; rfl)); (case hp => exact (Reps.none _ _)); intro v183 w5 ho6 hb hg_ hnew_; clear hg_ hnew_; (first | rw [← Ny182.out] at ho6 | (simp only [Int.reduceToNat] at ho6; rw [← Ny182.out] at ho6)); have n0_ := Aside0.mk (Kd.R_lower ho6 (below_size (by repeat (first | (with_reducible first | exact HB.out | apply below_alloc | apply pw_below_drewN | apply below_drew1 | refine below_set ?_ GE181.out) | exact HB.out)))); have n1_ := Aside0.mk (blk_below (g := gb181) (o := .cells #[.int .i64 a0_0, .int .i64 a0_1, .slice A0_2 l0_2.length c0_2, .slice A0_3 l0_3.length c0_3, .slice A0_4 l0_4.length c0_4, .int .i64 a0_5, .int .i64 a0_6] 25 (0, 0)) (by (with_reducible repeat (first | refine blk_drewN ?_ _ | refine blk_drew ?_ | refine blk_alloc ?_ _)); exact BK181.out) hb); have n2_ := Aside0.mk (below_step (by repeat (first | (with_reducible first | exact HB.out | apply below_alloc | apply pw_below_drewN | apply below_drew1 | refine below_set ?_ GE181.out) | exact HB.out)) hb); clear BK181; clear HB; have HO184 := n0_; have BK181 := n1_; have HB := n2_; clear n0_ n1_ n2_; clear hb ho6; have hcz7_0 : w5.cell? ⟨gb181, 0, none⟩ = some (.int .i64 a0_0) := (blk_cell BK181.out 0).trans rfl; have hcz7_1 : w5.cell? ⟨gb181, 1, none⟩ = some (.int .i64 a0_1) := (blk_cell BK181.out 1).trans rfl; have hcz7_2 : w5.cell? ⟨gb181, 2, none⟩ = some (.slice A0_2 l0_2.length c0_2) := (blk_cell BK181.out 2).trans rfl; have hcz7_3 : w5.cell? ⟨gb181, 3, none⟩ = some (.slice A0_3 l0_3.length c0_3) := (blk_cell BK181.out 3).trans rfl; have hcz7_4 : w5.cell? ⟨gb181, 4, none⟩ = some (.slice A0_4 l0_4.length c0_4) := (blk_cell BK181.out 4).trans rfl; have hcz7_5 : w5.cell? ⟨gb181, 5, none⟩ = some (.int .i64 a0_5) := (blk_cell BK181.out 5).trans rfl; have hcz7_6 : w5.cell? ⟨gb181, 6, none⟩ = some (.int .i64 a0_6) := (blk_cell BK181.out 6).trans rfl; have hfz7_0 := blk_frozen BK181.out 0; have hfz7_1 := blk_frozen BK181.out 1; have hfz7_2 := blk_frozen BK181.out 2; have hfz7_3 := blk_frozen BK181.out 3; have hfz7_4 := blk_frozen BK181.out 4; have hfz7_5 := blk_frozen BK181.out 5; have hfz7_6 := blk_frozen BK181.out 6) | ((with_reducible refine gate_builtin (b := .append) (xs := #[.tmp 8, .tmp 10]) rfl ?_); at_builtin; refine Kd.R_append_rows (Kd.int .i64) (w0 := w) w.heap.size rfl (.tmp 8) (.tmp 10) 22 3 (.int .i64 0) 8 rfl Tryz.underlying22 info3 rfl (by decide) (by omega) v183 y182 l0_3 _ _ _ (fun _ => True) (fun _ => False) rfl rfl ?aO ?aR (fun _ _ h => h) (fun _ h => h.elim) ?aF ?aB ?aS ?aL ?_; (case aR => repeat (first | exact (Kd.C_below HR0_3.out HB.out) | (with_reducible refine Kd.C_alloc ?_ _) | (with_reducible refine Kd.C_drewN ?_ _) | (with_reducible refine Kd.C_drew ?_))); (case aB => exact (by repeat (first | (with_reducible first | exact HB.out | apply below_alloc | apply pw_below_drewN | apply below_drew1 | refine below_set ?_ GE181.out) | exact HB.out))); (case aF => exact (fun _ _ => trivial)); (case aO => exact (by (with_reducible repeat (first | apply Kd.R_alloc | apply Kd.R_drewN | apply Kd.R_drew)); exact HO184.out)); (case aS => exact (below_size (by repeat (first | (with_reducible first | exact HB.out | apply below_alloc | apply pw_below_drewN | apply below_drew1 | refine below_set ?_ GE181.out) | exact HB.out)))); (case aL => have := LMc3.out; omega); intro v186 w8 ho hb hg hat; rw [← Ny185.out] at ho; have n0_ := Aside0.mk (blk_grown (g := gb181) (o := .cells #[.int .i64 a0_0, .int .i64 a0_1, .slice A0_2 l0_2.length c0_2, .slice A0_3 l0_3.length c0_3, .slice A0_4 l0_4.length c0_4, .int .i64 a0_5, .int .i64 a0_6] 25 (0, 0)) (by (with_reducible repeat (first | refine blk_drewN ?_ _ | refine blk_drew ?_ | refine blk_alloc ?_ _)); exact BK181.out) hg (Kd.R_ne HO184.out BK181.out (by decide))); have n1_ := Aside0.mk (hb); have n2_ := Aside0.mk (ho); clear BK181; clear HB; clear HO184; have BK181 := n0_; have HB := n1_; have HO187 := n2_; clear n0_ n1_ n2_; clear ho hb hg hat))
    go_loopg [6] k (fun kq v6 w' => ∃ (x5_1 : List Int) (x6_1 : Int), v6 = .int .i64 x6_1 ∧ Aside0 (assizeref28_finals.l0 kq l1 x5_1 x6_1 a0_0 a0_1 l0_2 l0_3 l0_4 a0_5 a0_6 = some r) ∧ Aside0 (kq ≤ k) ∧ Aside0 (Kd.R (Kd.int .i64) 3 w' w.heap.size (fun _ => True) v186 x5_1) ∧ Aside0 (w'.heap[gb181]? = some (.cells #[.int .i64 a0_0, .int .i64 a0_1, (.slice A0_2 l0_2.length c0_2), (.slice A0_3 l0_3.length c0_3), (.slice A0_4 l0_4.length c0_4), .int .i64 a0_5, .int .i64 a0_6] 25 (0, 0))) ∧ Aside0 (Below w.heap.size w w'))
    case atStart => exact ⟨(y185), (0), (by first | rfl | (simp; done) | (simp [*]; done)), H', ⟨Nat.le_refl _⟩, ⟨by (with_reducible repeat (first | apply Kd.R_alloc | apply Kd.R_drewN | apply Kd.R_drew)); exact HO187.out⟩, ⟨by (with_reducible repeat (first | refine blk_drewN ?_ _ | refine blk_drew ?_ | refine blk_alloc ?_ _)); exact BK181.out⟩, ⟨by repeat (first | (with_reducible first | exact HB.out | apply below_alloc | apply pw_below_drewN | apply below_drew1 | refine below_set ?_ GE181.out) | exact HB.out)⟩⟩
    case round =>
      clear H'
      try clear c1
      try clear p2
      try clear c3
      try clear hcz7_0
      try clear hcz7_1
      try clear hcz7_2
      try clear hcz7_3
      try clear hcz7_4
      try clear hcz7_5
      try clear hcz7_6
      try clear hfz7_0
      try clear hfz7_1
      try clear hfz7_2
      try clear hfz7_3
      try clear hfz7_4
      try clear hfz7_5
      try clear hfz7_6
      obtain ⟨x5_1, x6_1, rfl, HA, HK1, HO_5, BK181, HB⟩ := hrel
      cases gk with
      | zero => exact absurd HA.out (by simp [assizeref28_finals.l0])
      | succ k1 =>
        have H := HA.out
        clear HA
        simp only [assizeref28_finals.l0] at H
        by_cases c9 : x6_1 < (l1.length : Int)
        · rw [if_pos c9] at H
          have c9b0 : decide (x6_1 < (l1.length : Int)) = true := decide_eq_true c9
          clear c9
          by_cases c10 : 0 ≤ x6_1
          · rw [if_pos c10] at H
            have c10b0 : decide (0 ≤ x6_1) = true := decide_eq_true c10
            clear c10
            by_cases c11 : x6_1 < (l0_4.length : Int)
            · rw [if_pos c11] at H
              have c11b0 : decide (x6_1 < (l0_4.length : Int)) = true := decide_eq_true c11
              clear c11
              by_cases c12 : (rd l1 x6_1) = 1
              · rw [if_pos c12] at H
                have c12b0 : ((rd l1 x6_1) == 1) = true := beq_iff_eq.mpr c12
                have c12b1 : ((rd l1 x6_1) != 1) = false := bne_eq_false_iff_eq.mpr c12
                clear c12
                by_cases c13 : 0 ≤ ((rd_T53 l0_4 x6_1).f0)
                · rw [if_pos c13] at H
                  have c13b0 : decide (0 ≤ ((rd_T53 l0_4 x6_1).f0)) = true := decide_eq_true c13
                  clear c13
                  by_cases c14 : ((rd_T53 l0_4 x6_1).f0) < (x5_1.length : Int)
                  · rw [if_pos c14] at H
                    have c14b0 : decide (((rd_T53 l0_4 x6_1).f0) < (x5_1.length : Int)) = true := decide_eq_true c14
                    clear c14
                    obtain ⟨y192, hy192⟩ : ∃ y_ : List Int, y_ = (x5_1.set (((rd_T53 l0_4 x6_1).f0) : Int).toNat (wrap64 ((rd x5_1 ((rd_T53 l0_4 x6_1).f0)) + a0_0))) := ⟨_, rfl⟩
                    replace H : (assizeref28_finals.l0 k1 l1 y192 (wrap64 (x6_1 + 1)) a0_0 a0_1 l0_2 l0_3 l0_4 a0_5 a0_6) = some r := by first | (rw [hy192]; with_reducible exact H) | (have H2_ := (Option.bind_some _ _).symm.trans H; rw [hy192]; with_reducible exact H2_) | (have H2_ := (Option.bind_some _ _).symm.trans H; with_reducible exact H2_) | with_reducible exact H | (rw [hy192]; exact H) | exact H
                    have Ny192 := Aside0.mk hy192
                    clear hy192
                    have H' := Aside0.mk H
                    clear H
                    have hcz16_0 : wr.cell? ⟨gb181, 0, none⟩ = some (.int .i64 a0_0) := (blk_cell BK181.out 0).trans rfl
                    have hcz16_1 : wr.cell? ⟨gb181, 1, none⟩ = some (.int .i64 a0_1) := (blk_cell BK181.out 1).trans rfl
                    have hcz16_2 : wr.cell? ⟨gb181, 2, none⟩ = some (.slice A0_2 l0_2.length c0_2) := (blk_cell BK181.out 2).trans rfl
                    have hcz16_3 : wr.cell? ⟨gb181, 3, none⟩ = some (.slice A0_3 l0_3.length c0_3) := (blk_cell BK181.out 3).trans rfl
                    have hcz16_4 : wr.cell? ⟨gb181, 4, none⟩ = some (.slice A0_4 l0_4.length c0_4) := (blk_cell BK181.out 4).trans rfl
                    have hcz16_5 : wr.cell? ⟨gb181, 5, none⟩ = some (.int .i64 a0_5) := (blk_cell BK181.out 5).trans rfl
                    have hcz16_6 : wr.cell? ⟨gb181, 6, none⟩ = some (.int .i64 a0_6) := (blk_cell BK181.out 6).trans rfl
                    have hfz16_0 := blk_frozen BK181.out 0
                    have hfz16_1 := blk_frozen BK181.out 1
                    have hfz16_2 := blk_frozen BK181.out 2
                    have hfz16_3 := blk_frozen BK181.out 3
                    have hfz16_4 := blk_frozen BK181.out 4
                    have hfz16_5 := blk_frozen BK181.out 5
                    have hfz16_6 := blk_frozen BK181.out 6
                    have p188 : 0 ≤ (x6_1 : Int) := of_decide_eq_true (by first | (with_reducible assumption) | assumption)
                    have q188 : x6_1 < (l0_4.length : Int) := of_decide_eq_true (by first | (with_reducible assumption) | assumption)
                    obtain ⟨ad188, e188, hx188_0, hx188_1⟩ := at_T53 HR0_4.out x6_1 p188 q188
                    cases e188
                    replace hx188_0 := (HB.out.cell (World.block_lt_of_cell? w _ hx188_0)).trans hx188_0
                    replace hx188_1 := (HB.out.cell (World.block_lt_of_cell? w _ hx188_1)).trans hx188_1
                    replace p188 := eq_true p188
                    replace q188 := eq_true q188
                    try go_wp2_with (first | ((with_reducible refine gate_dst (N := 7) rfl ?_); refine box_event ?hg (N := 7) ?hd (cs := #[.int .i64 0, .int .i64 0]) (t := 53) ?hr ?_; (case hd => rfl); (case hg => rfl); (case hr => first | (go_simp; done) | (go_simp; rfl)); intro gb189 hg w17 hbox hb; have n0_ := Aside0.mk (Kd.R_below (by (with_reducible repeat (first | apply Kd.R_alloc | apply Kd.R_drewN | apply Kd.R_drew)); exact HO_5.out) hb); have n1_ := Aside0.mk (blk_below (g := gb181) (o := .cells #[.int .i64 a0_0, .int .i64 a0_1, .slice A0_2 l0_2.length c0_2, .slice A0_3 l0_3.length c0_3, .slice (some ad188) l0_4.length c0_4, .int .i64 a0_5, .int .i64 a0_6] 25 (0, 0)) (by (with_reducible repeat (first | refine blk_drewN ?_ _ | refine blk_drew ?_ | refine blk_alloc ?_ _)); exact BK181.out) hb); have n2_ := Aside0.mk (below_step (by repeat (first | (with_reducible first | exact HB.out | apply below_alloc | apply pw_below_drewN | apply below_drew1 | refine below_set ?_ GE181.out) | exact HB.out)) hb); have n3_ := Aside0.mk (hbox); have n4_ := Aside0.mk ((by rw [hg]; exact (below_size (by repeat (first | (with_reducible first | exact HB.out | apply below_alloc | apply pw_below_drewN | apply below_drew1 | refine below_set ?_ GE181.out) | exact HB.out))) : w.heap.size ≤ gb189)); have n5_ := Aside0.mk ((by rw [hg]; exact (below_size (by repeat (first | (with_reducible first | exact HB.out | apply below_alloc | apply pw_below_drewN | apply below_drew1 | refine below_set ?_ GE181.out) | exact HB.out))) : w.heap.size ≤ gb189)); have n6_ := Aside0.mk ((by rw [hg]; exact Nat.ne_of_lt (blk_lt (g := gb181) (o := .cells #[.int .i64 a0_0, .int .i64 a0_1, .slice A0_2 l0_2.length c0_2, .slice A0_3 l0_3.length c0_3, .slice (some ad188) l0_4.length c0_4, .int .i64 a0_5, .int .i64 a0_6] 25 (0, 0)) (by (with_reducible repeat (first | refine blk_drewN ?_ _ | refine blk_drew ?_ | refine blk_alloc ?_ _)); exact BK181.out)) : gb181 ≠ gb189)); have n7_ := Aside0.mk ((by rw [hg]; exact Nat.ne_of_gt (blk_lt (g := gb181) (o := .cells #[.int .i64 a0_0, .int .i64 a0_1, .slice A0_2 l0_2.length c0_2, .slice A0_3 l0_3.length c0_3, .slice (some ad188) l0_4.length c0_4, .int .i64 a0_5, .int .i64 a0_6] 25 (0, 0)) (by (with_reducible repeat (first | refine blk_drewN ?_ _ | refine blk_drew ?_ | refine blk_alloc ?_ _)); exact BK181.out)) : gb189 ≠ gb181)); clear HO_5; clear BK181; clear HB; have HO_5 := n0_; have BK181 := n1_; have HB := n2_; have BK189 := n3_; have GW189 := n4_; have GE189 := n5_; have NB181_189 := n6_; have NB189_181 := n7_; clear n0_ n1_ n2_ n3_ n4_ n5_ n6_ n7_; clear hb hbox hg; have hnb18 := NB189_181.out; have hnc18 := NB181_189.out; have hcz19_0 : w17.cell? ⟨gb189, 0, none⟩ = some (.int .i64 0) := (blk_cell BK189.out 0).trans rfl; have hcz19_1 : w17.cell? ⟨gb189, 1, none⟩ = some (.int .i64 0) := (blk_cell BK189.out 1).trans rfl; have hfz19_0 := blk_frozen BK189.out 0; have hfz19_1 := blk_frozen BK189.out 1; have p190 : 0 ≤ (x6_1 : Int) := of_decide_eq_true (by first | (with_reducible assumption) | assumption); have q190 : x6_1 < (l1.length : Int) := of_decide_eq_true (by first | (with_reducible assumption) | assumption); obtain ⟨ad190, e190, hx190_0⟩ := Kd.at_int HR1.out x6_1 p190 q190; cases e190; have hn190_0 : ad190.block ≠ gb189 := Nat.ne_of_lt (Nat.lt_of_lt_of_le (by have := World.block_lt_of_cell? _ _ hx190_0; first | rwa [add_block] at this | exact this) GW189.out); have hn190_1 : ad190.block ≠ gb189 := Nat.ne_of_lt (Nat.lt_of_lt_of_le (by have := World.block_lt_of_cell? _ _ hx190_0; first | rwa [add_block] at this | exact this) GW189.out); replace hx190_0 := (HB.out.cell (World.block_lt_of_cell? w _ hx190_0)).trans hx190_0; replace hx190_0 := (cell_far (p := ⟨gb189, 0, none⟩) (by first | (rw [add_block]; exact hn190_0) | (show (Addr.add _ _).block ≠ _; rw [add_block]; exact hn190_0) | exact hn190_0) (.int .i64 ((rd_T53 l0_4 x6_1).f0))).trans hx190_0; replace hx190_0 := (cell_far (p := ⟨gb189, 1, none⟩) (by first | (rw [add_block]; exact hn190_1) | (show (Addr.add _ _).block ≠ _; rw [add_block]; exact hn190_1) | exact hn190_1) (.int .i64 ((rd_T53 l0_4 x6_1).f1))).trans hx190_0; clear hn190_0; clear hn190_1; replace p190 := eq_true p190; replace q190 := eq_true q190))
                    have n0_ : Aside0 (Kd.R (Kd.int .i64) 3 ((w17.setCell ⟨gb189, 0, none⟩ (.int .i64 ((rd_T53 l0_4 x6_1).f0))).setCell ⟨gb189, 1, none⟩ (.int .i64 ((rd_T53 l0_4 x6_1).f1))) w.heap.size (fun _ => True) v186 x5_1) := ⟨by (with_reducible repeat (first | apply Kd.R_alloc | apply Kd.R_drewN | apply Kd.R_drew)); exact Kd.R_mono (Kd.R_far (p := ⟨gb189, 1, none⟩) (Kd.R_far (p := ⟨gb189, 0, none⟩) (Kd.R_types HO_5.out BK189.out (by decide)) (fun _ hk => hk.2) (.int .i64 ((rd_T53 l0_4 x6_1).f0))) (fun _ hk => hk.2) (.int .i64 ((rd_T53 l0_4 x6_1).f1))) (fun _ hk => trivial)⟩
                    have n1_ : Aside0 (((w17.setCell ⟨gb189, 0, none⟩ (.int .i64 ((rd_T53 l0_4 x6_1).f0))).setCell ⟨gb189, 1, none⟩ (.int .i64 ((rd_T53 l0_4 x6_1).f1))).heap[gb181]? = some (.cells #[.int .i64 a0_0, .int .i64 a0_1, .slice A0_2 l0_2.length c0_2, .slice A0_3 l0_3.length c0_3, .slice (some ad188) l0_4.length c0_4, .int .i64 a0_5, .int .i64 a0_6] 25 (0, 0))) := ⟨by (with_reducible repeat (first | refine blk_drewN ?_ _ | refine blk_drew ?_ | refine blk_alloc ?_ _)); refine blk_far ?_ NB181_189.out _; (with_reducible repeat (first | refine blk_drewN ?_ _ | refine blk_drew ?_ | refine blk_alloc ?_ _)); refine blk_far ?_ NB181_189.out _; (with_reducible repeat (first | refine blk_drewN ?_ _ | refine blk_drew ?_ | refine blk_alloc ?_ _)); exact BK181.out⟩
                    have n2_ : Aside0 (((w17.setCell ⟨gb189, 0, none⟩ (.int .i64 ((rd_T53 l0_4 x6_1).f0))).setCell ⟨gb189, 1, none⟩ (.int .i64 ((rd_T53 l0_4 x6_1).f1))).heap[gb189]? = some (.cells #[.int .i64 ((rd_T53 l0_4 x6_1).f0), .int .i64 ((rd_T53 l0_4 x6_1).f1)] 53 (0, 0))) := ⟨by (with_reducible repeat (first | refine blk_drewN ?_ _ | refine blk_drew ?_ | refine blk_alloc ?_ _)); refine blk_put (cs := #[.int .i64 ((rd_T53 l0_4 x6_1).f0), .int .i64 0]) ?_ 1 _ rfl; (with_reducible repeat (first | refine blk_drewN ?_ _ | refine blk_drew ?_ | refine blk_alloc ?_ _)); refine blk_put (cs := #[.int .i64 0, .int .i64 0]) ?_ 0 _ rfl; (with_reducible repeat (first | refine blk_drewN ?_ _ | refine blk_drew ?_ | refine blk_alloc ?_ _)); exact BK189.out⟩
                    have n3_ : Aside0 (Below w.heap.size w ((w17.setCell ⟨gb189, 0, none⟩ (.int .i64 ((rd_T53 l0_4 x6_1).f0))).setCell ⟨gb189, 1, none⟩ (.int .i64 ((rd_T53 l0_4 x6_1).f1)))) := ⟨by repeat (first | (with_reducible first | exact HB.out | apply below_alloc | apply pw_below_drewN | apply below_drew1 | refine below_set ?_ GE181.out | refine below_set ?_ GE189.out) | exact HB.out)⟩
                    (try clear HO_5)
                    (try clear BK181)
                    (try clear BK189)
                    (try clear HB)
                    generalize ((w17.setCell ⟨gb189, 0, none⟩ (.int .i64 ((rd_T53 l0_4 x6_1).f0))).setCell ⟨gb189, 1, none⟩ (.int .i64 ((rd_T53 l0_4 x6_1).f1))) = w20 at n0_ n1_ n2_ n3_ ⊢
                    have HO_5 := n0_
                    have BK181 := n1_
                    have BK189 := n2_
                    have HB := n3_
                    clear n0_ n1_ n2_ n3_
                    have n0_ := Aside0.mk (Kd.R_drew HO_5.out)
                    have n1_ := Aside0.mk (blk_drew BK181.out)
                    have n2_ := Aside0.mk (blk_drew BK189.out)
                    have n3_ := Aside0.mk (below_drew1 HB.out)
                    clear HO_5
                    clear BK181
                    clear BK189
                    clear HB
                    have HO_5 := n0_
                    have BK181 := n1_
                    have BK189 := n2_
                    have HB := n3_
                    clear n0_ n1_ n2_ n3_
                    obtain ⟨Ao22, co22, eo22⟩ := Kd.R_slice HO_5.out
                    (first | subst eo22 | (injection eo22 with f1_ f2_ f3_; have f4_ := f1_.symm; have f5_ := f3_.symm; clear f1_ f2_ f3_; subst f4_; subst f5_))
                    have p191 : 0 ≤ (((rd_T53 l0_4 x6_1).f0) : Int) := of_decide_eq_true (by first | (with_reducible assumption) | assumption)
                    have q191 : ((rd_T53 l0_4 x6_1).f0) < (x5_1.length : Int) := of_decide_eq_true (by first | (with_reducible assumption) | assumption)
                    obtain ⟨ad191, e191, hx191_0⟩ := Kd.at_int (Kd.R_reads' HO_5.out).2.2 ((rd_T53 l0_4 x6_1).f0) p191 q191
                    cases e191
                    replace p191 := eq_true p191
                    replace q191 := eq_true q191
                    have p15 : 0 ≤ (((rd_T53 l0_4 x6_1).f0) : Int) := of_decide_eq_true (by first | (with_reducible assumption) | assumption)
                    have q15 : (((rd_T53 l0_4 x6_1).f0) : Int) < ((x5_1.length : Int) : Int) := of_decide_eq_true (by first | (with_reducible assumption) | assumption)
                    obtain ⟨go15, co15, eo15, gb15, gl15, cl15, HG15⟩ := Kd.R_form HO_5.out (by omega)
                    (first | cases eo15 | (injection eo15 with ea_ en_ ec_; (first | subst ea_ | (injection ea_ with ea_; subst ea_)); subst ec_; clear en_))
                    have GB15 := Aside0.mk gb15
                    have GG15 := Aside0.mk HG15
                    clear gb15 gl15 HG15
                    (first | simp only [add_plain] at hx191_0 | skip)
                    obtain ⟨hx15_0, hf15_0⟩ := Kd.R_celln 0 HO_5.out (((rd_T53 l0_4 x6_1).f0) : Int) p15 q15
                    replace p15 := eq_true p15
                    replace q15 := eq_true q15
                    have HP23 := Kd.R_putn HO_5.out (((rd_T53 l0_4 x6_1).f0) : Int) (wrap64 ((rd x5_1 ((rd_T53 l0_4 x6_1).f0)) + a0_0))
                    rw [← Ny192.out] at HP23
                    have HQ23 := Aside0.mk HP23
                    clear HP23
                    refine start_ (n := 13) (S := fun w' => w'.cell? ⟨gb189, 0, none⟩ = some (.int .i64 ((rd_T53 l0_4 x6_1).f0)) ∧ w'.cell? ⟨gb189, 1, none⟩ = some (.int .i64 ((rd_T53 l0_4 x6_1).f1)) ∧ w'.cell? ⟨gb181, 0, none⟩ = some (.int .i64 a0_0) ∧ w'.cell? ⟨gb181, 1, none⟩ = some (.int .i64 a0_1) ∧ w'.cell? ⟨gb181, 2, none⟩ = some (.slice A0_2 l0_2.length c0_2) ∧ w'.cell? ⟨gb181, 3, none⟩ = some (.slice A0_3 l0_3.length c0_3) ∧ w'.cell? ⟨gb181, 4, none⟩ = some (.slice (some ad188) l0_4.length c0_4) ∧ w'.cell? ⟨gb181, 5, none⟩ = some (.int .i64 a0_5) ∧ w'.cell? ⟨gb181, 6, none⟩ = some (.int .i64 a0_6) ∧ w'.cell? ⟨go15, (((rd_T53 l0_4 x6_1).f0)).toNat, none⟩ = some (.int .i64 (rd x5_1 ((rd_T53 l0_4 x6_1).f0)))) (ds := [12]) #[false, false, false, false, false, false, false, false, false, false, false, false, false] (by kernel_rfl) rfl rfl ⟨(blk_cell BK189.out 0).trans rfl, (blk_cell BK189.out 1).trans rfl, (blk_cell BK181.out 0).trans rfl, (blk_cell BK181.out 1).trans rfl, (blk_cell BK181.out 2).trans rfl, (blk_cell BK181.out 3).trans rfl, (blk_cell BK181.out 4).trans rfl, (blk_cell BK181.out 5).trans rfl, (blk_cell BK181.out 6).trans rfl, hx191_0⟩ (fun hHeld => ?_); refine with_tabW assizeref28_finals.tab8 assizeref28_finals.bits8 (fun HT_ HW_ => ?_)
                    generalize w20.drew = w21 at HO_5 BK181 BK189 HB GG15 HQ23 hf15_0 hx15_0 hx191_0 hHeld ⊢
                    refine pure_ (i := 0) (N := some 29) (v := ?_) (a' := ?_) #[true, false, false, false, false, false, false, false, false, false, false, false, false] rfl rfl (any_of HT_.out (by kernel_rfl)) (fun _ _ _ h => h) (Or.inl ⟨by rfl, ?_⟩) ?_ ?_
                    rotate_left
                    · intro w'
                      go_simp
                      with_reducible rfl
                    rotate_left
                    · simp only [Act.put, List.setIfInBounds_toArray, List.set_cons_zero, List.set_cons_succ, i64_w, i32_w]
                      rfl
                    refine pure_ (i := 1) (N := some 30) (v := ?_) (a' := ?_) #[true, true, false, false, false, false, false, false, false, false, false, false, false] rfl rfl (any_of HT_.out (by kernel_rfl)) (fun _ _ _ h => h) (Or.inl ⟨by rfl, ?_⟩) ?_ ?_
                    rotate_left
                    · intro w'
                      go_simp
                      with_reducible rfl
                    rotate_left
                    · simp only [Act.put, List.setIfInBounds_toArray, List.set_cons_zero, List.set_cons_succ, i64_w, i32_w]
                      rfl
                    refine pure_ (i := 3) (N := some 32) (v := ?_) (a' := ?_) #[true, true, false, true, false, false, false, false, false, false, false, false, false] rfl rfl (any_of HT_.out (by kernel_rfl)) (fun _ _ _ h => h) (Or.inl ⟨by rfl, ?_⟩) ?_ ?_
                    rotate_left
                    · intro w'
                      go_simp
                      with_reducible rfl
                    rotate_left
                    · simp only [Act.put, List.setIfInBounds_toArray, List.set_cons_zero, List.set_cons_succ, i64_w, i32_w]
                      rfl
                    refine pure_ (i := 4) (N := some 33) (v := ?_) (a' := ?_) #[true, true, false, true, true, false, false, false, false, false, false, false, false] rfl rfl (any_of HT_.out (by kernel_rfl)) (fun _ _ _ h => h) (Or.inl ⟨by rfl, ?_⟩) ?_ ?_
                    rotate_left
                    · intro w'
                      go_simp
                      with_reducible rfl
                    rotate_left
                    · simp only [Act.put, List.setIfInBounds_toArray, List.set_cons_zero, List.set_cons_succ, i64_w, i32_w]
                      rfl
                    refine pure_ (i := 8) (N := some 37) (v := ?_) (a' := ?_) #[true, true, false, true, true, false, false, false, true, false, false, false, false] rfl rfl (any_of HT_.out (by kernel_rfl)) (fun _ _ _ h => h) (Or.inl ⟨by rfl, ?_⟩) ?_ ?_
                    rotate_left
                    · intro w'
                      go_simp
                      with_reducible rfl
                    rotate_left
                    · simp only [Act.put, List.setIfInBounds_toArray, List.set_cons_zero, List.set_cons_succ, i64_w, i32_w]
                      rfl
                    refine take_ (i := 2) (N := some 31) (v := ?_) (a' := ?_) #[true, true, true, true, true, false, false, false, true, false, false, false, false] rfl rfl (take_ofW HT_.out HW_.out (by kernel_rfl)) (fun _ _ _ h => h) (Or.inl ⟨by rfl, ?_⟩) hHeld ?_ ?_
                    rotate_left
                    · rintro w' ⟨s0, s1, s2, s3, s4, s5, s6, s7, s8, s9⟩
                      go_simp
                      with_reducible rfl
                    rotate_left
                    · simp only [Act.put, List.setIfInBounds_toArray, List.set_cons_zero, List.set_cons_succ, i64_w, i32_w]
                      rfl
                    refine take_ (i := 5) (N := some 34) (v := ?_) (a' := ?_) #[true, true, true, true, true, true, false, false, true, false, false, false, false] rfl rfl (take_ofW HT_.out HW_.out (by kernel_rfl)) (fun _ _ _ h => h) (Or.inl ⟨by rfl, ?_⟩) hHeld ?_ ?_
                    rotate_left
                    · rintro w' ⟨s0, s1, s2, s3, s4, s5, s6, s7, s8, s9⟩
                      go_simp
                      with_reducible rfl
                    rotate_left
                    · simp only [Act.put, List.setIfInBounds_toArray, List.set_cons_zero, List.set_cons_succ, i64_w, i32_w]
                      rfl
                    refine pure_ (i := 6) (N := some 35) (v := ?_) (a' := ?_) #[true, true, true, true, true, true, true, false, true, false, false, false, false] rfl rfl (any_of HT_.out (by kernel_rfl)) (fun _ _ _ h => h) (Or.inl ⟨by rfl, ?_⟩) ?_ ?_
                    rotate_left
                    · intro w'
                      go_simp
                      with_reducible rfl
                    rotate_left
                    · simp only [Act.put, List.setIfInBounds_toArray, List.set_cons_zero, List.set_cons_succ, i64_w, i32_w]
                      rfl
                    refine take_ (i := 7) (N := some 36) (v := ?_) (a' := ?_) #[true, true, true, true, true, true, true, true, true, false, false, false, false] rfl rfl (take_ofW HT_.out HW_.out (by kernel_rfl)) (fun _ _ _ h => h) (Or.inl ⟨by rfl, ?_⟩) hHeld ?_ ?_
                    rotate_left
                    · rintro w' ⟨s0, s1, s2, s3, s4, s5, s6, s7, s8, s9⟩
                      go_simp
                      with_reducible rfl
                    rotate_left
                    · simp only [Act.put, List.setIfInBounds_toArray, List.set_cons_zero, List.set_cons_succ, i64_w, i32_w]
                      rfl
                    refine take_ (i := 9) (N := some 38) (v := ?_) (a' := ?_) #[true, true, true, true, true, true, true, true, true, true, false, false, false] rfl rfl (take_ofW HT_.out HW_.out (by kernel_rfl)) (fun _ _ _ h => h) (Or.inl ⟨by rfl, ?_⟩) hHeld ?_ ?_
                    rotate_left
                    · rintro w' ⟨s0, s1, s2, s3, s4, s5, s6, s7, s8, s9⟩
                      go_simp
                      with_reducible rfl
                    rotate_left
                    · simp only [Act.put, List.setIfInBounds_toArray, List.set_cons_zero, List.set_cons_succ, i64_w, i32_w]
                      rfl
                    refine pure_ (i := 10) (N := some 39) (v := ?_) (a' := ?_) #[true, true, true, true, true, true, true, true, true, true, true, false, false] rfl rfl (any_of HT_.out (by kernel_rfl)) (fun _ _ _ h => h) (Or.inl ⟨by rfl, ?_⟩) ?_ ?_
                    rotate_left
                    · intro w'
                      go_simp
                      with_reducible rfl
                    rotate_left
                    · simp only [Act.put, List.setIfInBounds_toArray, List.set_cons_zero, List.set_cons_succ, i64_w, i32_w]
                      rfl
                    refine pure_ (i := 11) (N := some 40) (v := ?_) (a' := ?_) #[true, true, true, true, true, true, true, true, true, true, true, true, false] rfl rfl (any_of HT_.out (by kernel_rfl)) (fun _ _ _ h => h) (Or.inl ⟨by rfl, ?_⟩) ?_ ?_
                    rotate_left
                    · intro w'
                      go_simp
                      with_reducible rfl
                    rotate_left
                    · simp only [Act.put, List.setIfInBounds_toArray, List.set_cons_zero, List.set_cons_succ, i64_w, i32_w]
                      rfl
                    refine last_ (i := 12) (N := none) #[true, true, true, true, true, true, true, true, true, true, true, true, true] rfl rfl (one_of HT_.out (by kernel_rfl)) (by decide) (fun K hK => ?_)
                    refine skip_ (w1 := ?_) (by rfl) rfl ?_ ?_
                    rotate_left
                    · go_simp
                      rfl
                    refine hK.out _ _ ?_
                    clear hK K
                    refine done_ (done_of HT_.out (by kernel_rfl)) ?_
                    try go_wp2
                    go_roundg k1
                    case measure => have := HK1.out; omega
                    case rel => exact ⟨(y192), (wrap64 (x6_1 + 1)), (by first | rfl | (simp; done) | (simp [*]; done)), H', ⟨by have := HK1.out; omega⟩, ⟨by (with_reducible repeat (first | apply Kd.R_alloc | apply Kd.R_drewN | apply Kd.R_drew)); exact HQ23.out⟩, ⟨by (with_reducible repeat (first | refine blk_drewN ?_ _ | refine blk_drew ?_ | refine blk_alloc ?_ _)); refine blk_far ?_ (by have h_ := Kd.R_ne HO_5.out BK181.out (by decide); intro e_; exact h_ (by rw [e_]; rfl)) _; (with_reducible repeat (first | refine blk_drewN ?_ _ | refine blk_drew ?_ | refine blk_alloc ?_ _)); exact BK181.out⟩, ⟨by repeat (first | (with_reducible first | exact HB.out | apply below_alloc | apply pw_below_drewN | apply below_drew1 | refine below_set ?_ GB15.out | refine below_set ?_ GE181.out | refine below_set ?_ GE189.out) | exact HB.out)⟩⟩
                  · rw [if_neg c14] at H
                    exact absurd H (by simp)
                · rw [if_neg c13] at H
                  exact absurd H (by simp)
              · rw [if_neg c12] at H
                have c12b0 : ((rd l1 x6_1) == 1) = false := beq_eq_false_iff_ne.mpr c12
                have c12b1 : ((rd l1 x6_1) != 1) = true := bne_iff_ne.mpr c12
                by_cases c24 : (rd l1 x6_1) = 2
                · rw [if_pos c24] at H
                  have c24b0 : ((rd l1 x6_1) == 2) = true := beq_iff_eq.mpr c24
                  have c24b1 : ((rd l1 x6_1) != 2) = false := bne_eq_false_iff_eq.mpr c24
                  clear c24
                  by_cases c25 : 0 ≤ ((rd_T53 l0_4 x6_1).f0)
                  · rw [if_pos c25] at H
                    have c25b0 : decide (0 ≤ ((rd_T53 l0_4 x6_1).f0)) = true := decide_eq_true c25
                    clear c25
                    by_cases c26 : ((rd_T53 l0_4 x6_1).f0) < (x5_1.length : Int)
                    · rw [if_pos c26] at H
                      have c26b0 : decide (((rd_T53 l0_4 x6_1).f0) < (x5_1.length : Int)) = true := decide_eq_true c26
                      clear c26
                      obtain ⟨y194, hy194⟩ : ∃ y_ : List Int, y_ = (x5_1.set (((rd_T53 l0_4 x6_1).f0) : Int).toNat (wrap64 ((rd x5_1 ((rd_T53 l0_4 x6_1).f0)) + a0_1))) := ⟨_, rfl⟩
                      replace H : (if 0 ≤ ((rd_T53 l0_4 x6_1).f1) then (if ((rd_T53 l0_4 x6_1).f1) < (x5_1.length : Int) then (assizeref28_finals.l0 k1 l1 (y194.set (((rd_T53 l0_4 x6_1).f1) : Int).toNat (wrap64 ((rd y194 ((rd_T53 l0_4 x6_1).f1)) + a0_1))) (wrap64 (x6_1 + 1)) a0_0 a0_1 l0_2 l0_3 l0_4 a0_5 a0_6) else (none)) else (none)) = some r := by first | (rw [hy194]; with_reducible exact H) | (have H2_ := (Option.bind_some _ _).symm.trans H; rw [hy194]; with_reducible exact H2_) | (have H2_ := (Option.bind_some _ _).symm.trans H; with_reducible exact H2_) | with_reducible exact H | (rw [hy194]; exact H) | exact H
                      have Ny194 := Aside0.mk hy194
                      clear hy194
                      by_cases c28 : 0 ≤ ((rd_T53 l0_4 x6_1).f1)
                      · rw [if_pos c28] at H
                        have c28b0 : decide (0 ≤ ((rd_T53 l0_4 x6_1).f1)) = true := decide_eq_true c28
                        clear c28
                        by_cases c29 : ((rd_T53 l0_4 x6_1).f1) < (x5_1.length : Int)
                        · rw [if_pos c29] at H
                          have c29b0 : decide (((rd_T53 l0_4 x6_1).f1) < (x5_1.length : Int)) = true := decide_eq_true c29
                          clear c29
                          obtain ⟨y196, hy196⟩ : ∃ y_ : List Int, y_ = (y194.set (((rd_T53 l0_4 x6_1).f1) : Int).toNat (wrap64 ((rd y194 ((rd_T53 l0_4 x6_1).f1)) + a0_1))) := ⟨_, rfl⟩
                          replace H : (assizeref28_finals.l0 k1 l1 y196 (wrap64 (x6_1 + 1)) a0_0 a0_1 l0_2 l0_3 l0_4 a0_5 a0_6) = some r := by first | (rw [hy196]; with_reducible exact H) | (have H2_ := (Option.bind_some _ _).symm.trans H; rw [hy196]; with_reducible exact H2_) | (have H2_ := (Option.bind_some _ _).symm.trans H; with_reducible exact H2_) | with_reducible exact H | (rw [hy196]; exact H) | exact H
                          have Ny196 := Aside0.mk hy196
                          clear hy196
                          have H' := Aside0.mk H
                          clear H
                          have hcz31_0 : wr.cell? ⟨gb181, 0, none⟩ = some (.int .i64 a0_0) := (blk_cell BK181.out 0).trans rfl
                          have hcz31_1 : wr.cell? ⟨gb181, 1, none⟩ = some (.int .i64 a0_1) := (blk_cell BK181.out 1).trans rfl
                          have hcz31_2 : wr.cell? ⟨gb181, 2, none⟩ = some (.slice A0_2 l0_2.length c0_2) := (blk_cell BK181.out 2).trans rfl
                          have hcz31_3 : wr.cell? ⟨gb181, 3, none⟩ = some (.slice A0_3 l0_3.length c0_3) := (blk_cell BK181.out 3).trans rfl
                          have hcz31_4 : wr.cell? ⟨gb181, 4, none⟩ = some (.slice A0_4 l0_4.length c0_4) := (blk_cell BK181.out 4).trans rfl
                          have hcz31_5 : wr.cell? ⟨gb181, 5, none⟩ = some (.int .i64 a0_5) := (blk_cell BK181.out 5).trans rfl
                          have hcz31_6 : wr.cell? ⟨gb181, 6, none⟩ = some (.int .i64 a0_6) := (blk_cell BK181.out 6).trans rfl
                          have hfz31_0 := blk_frozen BK181.out 0
                          have hfz31_1 := blk_frozen BK181.out 1
                          have hfz31_2 := blk_frozen BK181.out 2
                          have hfz31_3 := blk_frozen BK181.out 3
                          have hfz31_4 := blk_frozen BK181.out 4
                          have hfz31_5 := blk_frozen BK181.out 5
                          have hfz31_6 := blk_frozen BK181.out 6
                          have p188 : 0 ≤ (x6_1 : Int) := of_decide_eq_true (by first | (with_reducible assumption) | assumption)
                          have q188 : x6_1 < (l0_4.length : Int) := of_decide_eq_true (by first | (with_reducible assumption) | assumption)
                          obtain ⟨ad188, e188, hx188_0, hx188_1⟩ := at_T53 HR0_4.out x6_1 p188 q188
                          cases e188
                          replace hx188_0 := (HB.out.cell (World.block_lt_of_cell? w _ hx188_0)).trans hx188_0
                          replace hx188_1 := (HB.out.cell (World.block_lt_of_cell? w _ hx188_1)).trans hx188_1
                          replace p188 := eq_true p188
                          replace q188 := eq_true q188
                          try go_wp2_with (first | ((with_reducible refine gate_dst (N := 7) rfl ?_); refine box_event ?hg (N := 7) ?hd (cs := #[.int .i64 0, .int .i64 0]) (t := 53) ?hr ?_; (case hd => rfl); (case hg => rfl); (case hr => first | (go_simp; done) | (go_simp; rfl)); intro gb189 hg w32 hbox hb; have n0_ := Aside0.mk (Kd.R_below (by (with_reducible repeat (first | apply Kd.R_alloc | apply Kd.R_drewN | apply Kd.R_drew)); exact HO_5.out) hb); have n1_ := Aside0.mk (blk_below (g := gb181) (o := .cells #[.int .i64 a0_0, .int .i64 a0_1, .slice A0_2 l0_2.length c0_2, .slice A0_3 l0_3.length c0_3, .slice (some ad188) l0_4.length c0_4, .int .i64 a0_5, .int .i64 a0_6] 25 (0, 0)) (by (with_reducible repeat (first | refine blk_drewN ?_ _ | refine blk_drew ?_ | refine blk_alloc ?_ _)); exact BK181.out) hb); have n2_ := Aside0.mk (below_step (by repeat (first | (with_reducible first | exact HB.out | apply below_alloc | apply pw_below_drewN | apply below_drew1 | refine below_set ?_ GE181.out) | exact HB.out)) hb); have n3_ := Aside0.mk (hbox); have n4_ := Aside0.mk ((by rw [hg]; exact (below_size (by repeat (first | (with_reducible first | exact HB.out | apply below_alloc | apply pw_below_drewN | apply below_drew1 | refine below_set ?_ GE181.out) | exact HB.out))) : w.heap.size ≤ gb189)); have n5_ := Aside0.mk ((by rw [hg]; exact (below_size (by repeat (first | (with_reducible first | exact HB.out | apply below_alloc | apply pw_below_drewN | apply below_drew1 | refine below_set ?_ GE181.out) | exact HB.out))) : w.heap.size ≤ gb189)); have n6_ := Aside0.mk ((by rw [hg]; exact Nat.ne_of_lt (blk_lt (g := gb181) (o := .cells #[.int .i64 a0_0, .int .i64 a0_1, .slice A0_2 l0_2.length c0_2, .slice A0_3 l0_3.length c0_3, .slice (some ad188) l0_4.length c0_4, .int .i64 a0_5, .int .i64 a0_6] 25 (0, 0)) (by (with_reducible repeat (first | refine blk_drewN ?_ _ | refine blk_drew ?_ | refine blk_alloc ?_ _)); exact BK181.out)) : gb181 ≠ gb189)); have n7_ := Aside0.mk ((by rw [hg]; exact Nat.ne_of_gt (blk_lt (g := gb181) (o := .cells #[.int .i64 a0_0, .int .i64 a0_1, .slice A0_2 l0_2.length c0_2, .slice A0_3 l0_3.length c0_3, .slice (some ad188) l0_4.length c0_4, .int .i64 a0_5, .int .i64 a0_6] 25 (0, 0)) (by (with_reducible repeat (first | refine blk_drewN ?_ _ | refine blk_drew ?_ | refine blk_alloc ?_ _)); exact BK181.out)) : gb189 ≠ gb181)); clear HO_5; clear BK181; clear HB; have HO_5 := n0_; have BK181 := n1_; have HB := n2_; have BK189 := n3_; have GW189 := n4_; have GE189 := n5_; have NB181_189 := n6_; have NB189_181 := n7_; clear n0_ n1_ n2_ n3_ n4_ n5_ n6_ n7_; clear hb hbox hg; have hnb33 := NB189_181.out; have hnc33 := NB181_189.out; have hcz34_0 : w32.cell? ⟨gb189, 0, none⟩ = some (.int .i64 0) := (blk_cell BK189.out 0).trans rfl; have hcz34_1 : w32.cell? ⟨gb189, 1, none⟩ = some (.int .i64 0) := (blk_cell BK189.out 1).trans rfl; have hfz34_0 := blk_frozen BK189.out 0; have hfz34_1 := blk_frozen BK189.out 1; have p190 : 0 ≤ (x6_1 : Int) := of_decide_eq_true (by first | (with_reducible assumption) | assumption); have q190 : x6_1 < (l1.length : Int) := of_decide_eq_true (by first | (with_reducible assumption) | assumption); obtain ⟨ad190, e190, hx190_0⟩ := Kd.at_int HR1.out x6_1 p190 q190; cases e190; have hn190_0 : ad190.block ≠ gb189 := Nat.ne_of_lt (Nat.lt_of_lt_of_le (by have := World.block_lt_of_cell? _ _ hx190_0; first | rwa [add_block] at this | exact this) GW189.out); have hn190_1 : ad190.block ≠ gb189 := Nat.ne_of_lt (Nat.lt_of_lt_of_le (by have := World.block_lt_of_cell? _ _ hx190_0; first | rwa [add_block] at this | exact this) GW189.out); replace hx190_0 := (HB.out.cell (World.block_lt_of_cell? w _ hx190_0)).trans hx190_0; replace hx190_0 := (cell_far (p := ⟨gb189, 0, none⟩) (by first | (rw [add_block]; exact hn190_0) | (show (Addr.add _ _).block ≠ _; rw [add_block]; exact hn190_0) | exact hn190_0) (.int .i64 ((rd_T53 l0_4 x6_1).f0))).trans hx190_0; replace hx190_0 := (cell_far (p := ⟨gb189, 1, none⟩) (by first | (rw [add_block]; exact hn190_1) | (show (Addr.add _ _).block ≠ _; rw [add_block]; exact hn190_1) | exact hn190_1) (.int .i64 ((rd_T53 l0_4 x6_1).f1))).trans hx190_0; clear hn190_0; clear hn190_1; replace p190 := eq_true p190; replace q190 := eq_true q190))
                          have n0_ : Aside0 (Kd.R (Kd.int .i64) 3 ((w32.setCell ⟨gb189, 0, none⟩ (.int .i64 ((rd_T53 l0_4 x6_1).f0))).setCell ⟨gb189, 1, none⟩ (.int .i64 ((rd_T53 l0_4 x6_1).f1))) w.heap.size (fun _ => True) v186 x5_1) := ⟨by (with_reducible repeat (first | apply Kd.R_alloc | apply Kd.R_drewN | apply Kd.R_drew)); exact Kd.R_mono (Kd.R_far (p := ⟨gb189, 1, none⟩) (Kd.R_far (p := ⟨gb189, 0, none⟩) (Kd.R_types HO_5.out BK189.out (by decide)) (fun _ hk => hk.2) (.int .i64 ((rd_T53 l0_4 x6_1).f0))) (fun _ hk => hk.2) (.int .i64 ((rd_T53 l0_4 x6_1).f1))) (fun _ hk => trivial)⟩
                          have n1_ : Aside0 (((w32.setCell ⟨gb189, 0, none⟩ (.int .i64 ((rd_T53 l0_4 x6_1).f0))).setCell ⟨gb189, 1, none⟩ (.int .i64 ((rd_T53 l0_4 x6_1).f1))).heap[gb181]? = some (.cells #[.int .i64 a0_0, .int .i64 a0_1, .slice A0_2 l0_2.length c0_2, .slice A0_3 l0_3.length c0_3, .slice (some ad188) l0_4.length c0_4, .int .i64 a0_5, .int .i64 a0_6] 25 (0, 0))) := ⟨by (with_reducible repeat (first | refine blk_drewN ?_ _ | refine blk_drew ?_ | refine blk_alloc ?_ _)); refine blk_far ?_ NB181_189.out _; (with_reducible repeat (first | refine blk_drewN ?_ _ | refine blk_drew ?_ | refine blk_alloc ?_ _)); refine blk_far ?_ NB181_189.out _; (with_reducible repeat (first | refine blk_drewN ?_ _ | refine blk_drew ?_ | refine blk_alloc ?_ _)); exact BK181.out⟩
                          have n2_ : Aside0 (((w32.setCell ⟨gb189, 0, none⟩ (.int .i64 ((rd_T53 l0_4 x6_1).f0))).setCell ⟨gb189, 1, none⟩ (.int .i64 ((rd_T53 l0_4 x6_1).f1))).heap[gb189]? = some (.cells #[.int .i64 ((rd_T53 l0_4 x6_1).f0), .int .i64 ((rd_T53 l0_4 x6_1).f1)] 53 (0, 0))) := ⟨by (with_reducible repeat (first | refine blk_drewN ?_ _ | refine blk_drew ?_ | refine blk_alloc ?_ _)); refine blk_put (cs := #[.int .i64 ((rd_T53 l0_4 x6_1).f0), .int .i64 0]) ?_ 1 _ rfl; (with_reducible repeat (first | refine blk_drewN ?_ _ | refine blk_drew ?_ | refine blk_alloc ?_ _)); refine blk_put (cs := #[.int .i64 0, .int .i64 0]) ?_ 0 _ rfl; (with_reducible repeat (first | refine blk_drewN ?_ _ | refine blk_drew ?_ | refine blk_alloc ?_ _)); exact BK189.out⟩
                          have n3_ : Aside0 (Below w.heap.size w ((w32.setCell ⟨gb189, 0, none⟩ (.int .i64 ((rd_T53 l0_4 x6_1).f0))).setCell ⟨gb189, 1, none⟩ (.int .i64 ((rd_T53 l0_4 x6_1).f1)))) := ⟨by repeat (first | (with_reducible first | exact HB.out | apply below_alloc | apply pw_below_drewN | apply below_drew1 | refine below_set ?_ GE181.out | refine below_set ?_ GE189.out) | exact HB.out)⟩
                          (try clear HO_5)
                          (try clear BK181)
                          (try clear BK189)
                          (try clear HB)
                          generalize ((w32.setCell ⟨gb189, 0, none⟩ (.int .i64 ((rd_T53 l0_4 x6_1).f0))).setCell ⟨gb189, 1, none⟩ (.int .i64 ((rd_T53 l0_4 x6_1).f1))) = w35 at n0_ n1_ n2_ n3_ ⊢
                          have HO_5 := n0_
                          have BK181 := n1_
                          have BK189 := n2_
                          have HB := n3_
                          clear n0_ n1_ n2_ n3_
                          have n0_ := Aside0.mk (Kd.R_drew HO_5.out)
                          have n1_ := Aside0.mk (blk_drew BK181.out)
                          have n2_ := Aside0.mk (blk_drew BK189.out)
                          have n3_ := Aside0.mk (below_drew1 HB.out)
                          clear HO_5
                          clear BK181
                          clear BK189
                          clear HB
                          have HO_5 := n0_
                          have BK181 := n1_
                          have BK189 := n2_
                          have HB := n3_
                          clear n0_ n1_ n2_ n3_
                          obtain ⟨Ao37, co37, eo37⟩ := Kd.R_slice HO_5.out
                          (first | subst eo37 | (injection eo37 with f1_ f2_ f3_; have f4_ := f1_.symm; have f5_ := f3_.symm; clear f1_ f2_ f3_; subst f4_; subst f5_))
                          have p193 : 0 ≤ (((rd_T53 l0_4 x6_1).f0) : Int) := of_decide_eq_true (by first | (with_reducible assumption) | assumption)
                          have q193 : ((rd_T53 l0_4 x6_1).f0) < (x5_1.length : Int) := of_decide_eq_true (by first | (with_reducible assumption) | assumption)
                          obtain ⟨ad193, e193, hx193_0⟩ := Kd.at_int (Kd.R_reads' HO_5.out).2.2 ((rd_T53 l0_4 x6_1).f0) p193 q193
                          cases e193
                          replace p193 := eq_true p193
                          replace q193 := eq_true q193
                          have p27 : 0 ≤ (((rd_T53 l0_4 x6_1).f0) : Int) := of_decide_eq_true (by first | (with_reducible assumption) | assumption)
                          have q27 : (((rd_T53 l0_4 x6_1).f0) : Int) < ((x5_1.length : Int) : Int) := of_decide_eq_true (by first | (with_reducible assumption) | assumption)
                          obtain ⟨go27, co27, eo27, gb27, gl27, cl27, HG27⟩ := Kd.R_form HO_5.out (by omega)
                          (first | cases eo27 | (injection eo27 with ea_ en_ ec_; (first | subst ea_ | (injection ea_ with ea_; subst ea_)); subst ec_; clear en_))
                          have GB27 := Aside0.mk gb27
                          have GG27 := Aside0.mk HG27
                          clear gb27 gl27 HG27
                          (first | simp only [add_plain] at hx193_0 | skip)
                          obtain ⟨hx27_0, hf27_0⟩ := Kd.R_celln 0 HO_5.out (((rd_T53 l0_4 x6_1).f0) : Int) p27 q27
                          replace p27 := eq_true p27
                          replace q27 := eq_true q27
                          have HP38 := Kd.R_putn HO_5.out (((rd_T53 l0_4 x6_1).f0) : Int) (wrap64 ((rd x5_1 ((rd_T53 l0_4 x6_1).f0)) + a0_1))
                          rw [← Ny194.out] at HP38
                          have HQ38 := Aside0.mk HP38
                          clear HP38
                          refine start_ (n := 13) (S := fun w' => w'.cell? ⟨gb189, 0, none⟩ = some (.int .i64 ((rd_T53 l0_4 x6_1).f0)) ∧ w'.cell? ⟨gb189, 1, none⟩ = some (.int .i64 ((rd_T53 l0_4 x6_1).f1)) ∧ w'.cell? ⟨gb181, 0, none⟩ = some (.int .i64 a0_0) ∧ w'.cell? ⟨gb181, 1, none⟩ = some (.int .i64 a0_1) ∧ w'.cell? ⟨gb181, 2, none⟩ = some (.slice A0_2 l0_2.length c0_2) ∧ w'.cell? ⟨gb181, 3, none⟩ = some (.slice A0_3 l0_3.length c0_3) ∧ w'.cell? ⟨gb181, 4, none⟩ = some (.slice (some ad188) l0_4.length c0_4) ∧ w'.cell? ⟨gb181, 5, none⟩ = some (.int .i64 a0_5) ∧ w'.cell? ⟨gb181, 6, none⟩ = some (.int .i64 a0_6) ∧ w'.cell? ⟨go27, (((rd_T53 l0_4 x6_1).f0)).toNat, none⟩ = some (.int .i64 (rd x5_1 ((rd_T53 l0_4 x6_1).f0)))) (ds := [12]) #[false, false, false, false, false, false, false, false, false, false, false, false, false] (by kernel_rfl) rfl rfl ⟨(blk_cell BK189.out 0).trans rfl, (blk_cell BK189.out 1).trans rfl, (blk_cell BK181.out 0).trans rfl, (blk_cell BK181.out 1).trans rfl, (blk_cell BK181.out 2).trans rfl, (blk_cell BK181.out 3).trans rfl, (blk_cell BK181.out 4).trans rfl, (blk_cell BK181.out 5).trans rfl, (blk_cell BK181.out 6).trans rfl, hx193_0⟩ (fun hHeld => ?_); refine with_tabW assizeref28_finals.tab10 assizeref28_finals.bits10 (fun HT_ HW_ => ?_)
                          generalize w35.drew = w36 at HO_5 BK181 BK189 HB GG27 HQ38 hf27_0 hx193_0 hx27_0 hHeld ⊢
                          refine pure_ (i := 0) (N := some 43) (v := ?_) (a' := ?_) #[true, false, false, false, false, false, false, false, false, false, false, false, false] rfl rfl (any_of HT_.out (by kernel_rfl)) (fun _ _ _ h => h) (Or.inl ⟨by rfl, ?_⟩) ?_ ?_
                          rotate_left
                          · intro w'
                            go_simp
                            with_reducible rfl
                          rotate_left
                          · simp only [Act.put, List.setIfInBounds_toArray, List.set_cons_zero, List.set_cons_succ, i64_w, i32_w]
                            rfl
                          refine pure_ (i := 1) (N := some 44) (v := ?_) (a' := ?_) #[true, true, false, false, false, false, false, false, false, false, false, false, false] rfl rfl (any_of HT_.out (by kernel_rfl)) (fun _ _ _ h => h) (Or.inl ⟨by rfl, ?_⟩) ?_ ?_
                          rotate_left
                          · intro w'
                            go_simp
                            with_reducible rfl
                          rotate_left
                          · simp only [Act.put, List.setIfInBounds_toArray, List.set_cons_zero, List.set_cons_succ, i64_w, i32_w]
                            rfl
                          refine pure_ (i := 3) (N := some 46) (v := ?_) (a' := ?_) #[true, true, false, true, false, false, false, false, false, false, false, false, false] rfl rfl (any_of HT_.out (by kernel_rfl)) (fun _ _ _ h => h) (Or.inl ⟨by rfl, ?_⟩) ?_ ?_
                          rotate_left
                          · intro w'
                            go_simp
                            with_reducible rfl
                          rotate_left
                          · simp only [Act.put, List.setIfInBounds_toArray, List.set_cons_zero, List.set_cons_succ, i64_w, i32_w]
                            rfl
                          refine pure_ (i := 4) (N := some 47) (v := ?_) (a' := ?_) #[true, true, false, true, true, false, false, false, false, false, false, false, false] rfl rfl (any_of HT_.out (by kernel_rfl)) (fun _ _ _ h => h) (Or.inl ⟨by rfl, ?_⟩) ?_ ?_
                          rotate_left
                          · intro w'
                            go_simp
                            with_reducible rfl
                          rotate_left
                          · simp only [Act.put, List.setIfInBounds_toArray, List.set_cons_zero, List.set_cons_succ, i64_w, i32_w]
                            rfl
                          refine pure_ (i := 8) (N := some 51) (v := ?_) (a' := ?_) #[true, true, false, true, true, false, false, false, true, false, false, false, false] rfl rfl (any_of HT_.out (by kernel_rfl)) (fun _ _ _ h => h) (Or.inl ⟨by rfl, ?_⟩) ?_ ?_
                          rotate_left
                          · intro w'
                            go_simp
                            with_reducible rfl
                          rotate_left
                          · simp only [Act.put, List.setIfInBounds_toArray, List.set_cons_zero, List.set_cons_succ, i64_w, i32_w]
                            rfl
                          refine take_ (i := 2) (N := some 45) (v := ?_) (a' := ?_) #[true, true, true, true, true, false, false, false, true, false, false, false, false] rfl rfl (take_ofW HT_.out HW_.out (by kernel_rfl)) (fun _ _ _ h => h) (Or.inl ⟨by rfl, ?_⟩) hHeld ?_ ?_
                          rotate_left
                          · rintro w' ⟨s0, s1, s2, s3, s4, s5, s6, s7, s8, s9⟩
                            go_simp
                            with_reducible rfl
                          rotate_left
                          · simp only [Act.put, List.setIfInBounds_toArray, List.set_cons_zero, List.set_cons_succ, i64_w, i32_w]
                            rfl
                          refine take_ (i := 5) (N := some 48) (v := ?_) (a' := ?_) #[true, true, true, true, true, true, false, false, true, false, false, false, false] rfl rfl (take_ofW HT_.out HW_.out (by kernel_rfl)) (fun _ _ _ h => h) (Or.inl ⟨by rfl, ?_⟩) hHeld ?_ ?_
                          rotate_left
                          · rintro w' ⟨s0, s1, s2, s3, s4, s5, s6, s7, s8, s9⟩
                            go_simp
                            with_reducible rfl
                          rotate_left
                          · simp only [Act.put, List.setIfInBounds_toArray, List.set_cons_zero, List.set_cons_succ, i64_w, i32_w]
                            rfl
                          refine pure_ (i := 6) (N := some 49) (v := ?_) (a' := ?_) #[true, true, true, true, true, true, true, false, true, false, false, false, false] rfl rfl (any_of HT_.out (by kernel_rfl)) (fun _ _ _ h => h) (Or.inl ⟨by rfl, ?_⟩) ?_ ?_
                          rotate_left
                          · intro w'
                            go_simp
                            with_reducible rfl
                          rotate_left
                          · simp only [Act.put, List.setIfInBounds_toArray, List.set_cons_zero, List.set_cons_succ, i64_w, i32_w]
                            rfl
                          refine take_ (i := 7) (N := some 50) (v := ?_) (a' := ?_) #[true, true, true, true, true, true, true, true, true, false, false, false, false] rfl rfl (take_ofW HT_.out HW_.out (by kernel_rfl)) (fun _ _ _ h => h) (Or.inl ⟨by rfl, ?_⟩) hHeld ?_ ?_
                          rotate_left
                          · rintro w' ⟨s0, s1, s2, s3, s4, s5, s6, s7, s8, s9⟩
                            go_simp
                            with_reducible rfl
                          rotate_left
                          · simp only [Act.put, List.setIfInBounds_toArray, List.set_cons_zero, List.set_cons_succ, i64_w, i32_w]
                            rfl
                          refine take_ (i := 9) (N := some 52) (v := ?_) (a' := ?_) #[true, true, true, true, true, true, true, true, true, true, false, false, false] rfl rfl (take_ofW HT_.out HW_.out (by kernel_rfl)) (fun _ _ _ h => h) (Or.inl ⟨by rfl, ?_⟩) hHeld ?_ ?_
                          rotate_left
                          · rintro w' ⟨s0, s1, s2, s3, s4, s5, s6, s7, s8, s9⟩
                            go_simp
                            with_reducible rfl
                          rotate_left
                          · simp only [Act.put, List.setIfInBounds_toArray, List.set_cons_zero, List.set_cons_succ, i64_w, i32_w]
                            rfl
                          refine pure_ (i := 10) (N := some 53) (v := ?_) (a' := ?_) #[true, true, true, true, true, true, true, true, true, true, true, false, false] rfl rfl (any_of HT_.out (by kernel_rfl)) (fun _ _ _ h => h) (Or.inl ⟨by rfl, ?_⟩) ?_ ?_
                          rotate_left
                          · intro w'
                            go_simp
                            with_reducible rfl
                          rotate_left
                          · simp only [Act.put, List.setIfInBounds_toArray, List.set_cons_zero, List.set_cons_succ, i64_w, i32_w]
                            rfl
                          refine pure_ (i := 11) (N := some 54) (v := ?_) (a' := ?_) #[true, true, true, true, true, true, true, true, true, true, true, true, false] rfl rfl (any_of HT_.out (by kernel_rfl)) (fun _ _ _ h => h) (Or.inl ⟨by rfl, ?_⟩) ?_ ?_
                          rotate_left
                          · intro w'
                            go_simp
                            with_reducible rfl
                          rotate_left
                          · simp only [Act.put, List.setIfInBounds_toArray, List.set_cons_zero, List.set_cons_succ, i64_w, i32_w]
                            rfl
                          refine last_ (i := 12) (N := none) #[true, true, true, true, true, true, true, true, true, true, true, true, true] rfl rfl (one_of HT_.out (by kernel_rfl)) (by decide) (fun K hK => ?_)
                          refine skip_ (w1 := ?_) (by rfl) rfl ?_ ?_
                          rotate_left
                          · go_simp
                            rfl
                          refine hK.out _ _ ?_
                          clear hK K
                          refine done_ (done_of HT_.out (by kernel_rfl)) ?_
                          try go_wp2
                          have n0_ : Aside0 (Kd.R (Kd.int .i64) 3 (w36.setCell ⟨go27, (((rd_T53 l0_4 x6_1).f0) : Int).toNat, none⟩ (.int .i64 (wrap64 ((rd x5_1 ((rd_T53 l0_4 x6_1).f0)) + a0_1)))) w.heap.size (fun _ => True) (.slice (some ⟨go27, 0, none⟩) x5_1.length co37) y194) := ⟨by (with_reducible repeat (first | apply Kd.R_alloc | apply Kd.R_drewN | apply Kd.R_drew)); exact HQ38.out⟩
                          have n1_ : Aside0 ((w36.setCell ⟨go27, (((rd_T53 l0_4 x6_1).f0) : Int).toNat, none⟩ (.int .i64 (wrap64 ((rd x5_1 ((rd_T53 l0_4 x6_1).f0)) + a0_1)))).heap[gb181]? = some (.cells #[.int .i64 a0_0, .int .i64 a0_1, .slice A0_2 l0_2.length c0_2, .slice A0_3 l0_3.length c0_3, .slice (some ad188) l0_4.length c0_4, .int .i64 a0_5, .int .i64 a0_6] 25 (0, 0))) := ⟨by (with_reducible repeat (first | refine blk_drewN ?_ _ | refine blk_drew ?_ | refine blk_alloc ?_ _)); refine blk_far ?_ (by have h_ := Kd.R_ne HO_5.out BK181.out (by decide); intro e_; exact h_ (by rw [e_]; rfl)) _; (with_reducible repeat (first | refine blk_drewN ?_ _ | refine blk_drew ?_ | refine blk_alloc ?_ _)); exact BK181.out⟩
                          have n2_ : Aside0 ((w36.setCell ⟨go27, (((rd_T53 l0_4 x6_1).f0) : Int).toNat, none⟩ (.int .i64 (wrap64 ((rd x5_1 ((rd_T53 l0_4 x6_1).f0)) + a0_1)))).heap[gb189]? = some (.cells #[.int .i64 ((rd_T53 l0_4 x6_1).f0), .int .i64 ((rd_T53 l0_4 x6_1).f1)] 53 (0, 0))) := ⟨by (with_reducible repeat (first | refine blk_drewN ?_ _ | refine blk_drew ?_ | refine blk_alloc ?_ _)); refine blk_far ?_ (by have h_ := Kd.R_ne HO_5.out BK189.out (by decide); intro e_; exact h_ (by rw [e_]; rfl)) _; (with_reducible repeat (first | refine blk_drewN ?_ _ | refine blk_drew ?_ | refine blk_alloc ?_ _)); exact BK189.out⟩
                          have n3_ : Aside0 (Below w.heap.size w (w36.setCell ⟨go27, (((rd_T53 l0_4 x6_1).f0) : Int).toNat, none⟩ (.int .i64 (wrap64 ((rd x5_1 ((rd_T53 l0_4 x6_1).f0)) + a0_1))))) := ⟨by repeat (first | (with_reducible first | exact HB.out | apply below_alloc | apply pw_below_drewN | apply below_drew1 | refine below_set ?_ GB27.out | refine below_set ?_ GE181.out | refine below_set ?_ GE189.out) | exact HB.out)⟩
                          (try clear HO_5)
                          (try clear BK181)
                          (try clear BK189)
                          (try clear HB)
                          generalize (w36.setCell ⟨go27, (((rd_T53 l0_4 x6_1).f0) : Int).toNat, none⟩ (.int .i64 (wrap64 ((rd x5_1 ((rd_T53 l0_4 x6_1).f0)) + a0_1)))) = w39 at n0_ n1_ n2_ n3_ ⊢
                          have HO_5 := n0_
                          have BK181 := n1_
                          have BK189 := n2_
                          have HB := n3_
                          clear n0_ n1_ n2_ n3_
                          have n0_ := Aside0.mk (Kd.R_drew HO_5.out)
                          have n1_ := Aside0.mk (blk_drew BK181.out)
                          have n2_ := Aside0.mk (blk_drew BK189.out)
                          have n3_ := Aside0.mk (below_drew1 HB.out)
                          clear HO_5
                          clear BK181
                          clear BK189
                          clear HB
                          have HO_5 := n0_
                          have BK181 := n1_
                          have BK189 := n2_
                          have HB := n3_
                          clear n0_ n1_ n2_ n3_
                          have p195 : 0 ≤ (((rd_T53 l0_4 x6_1).f1) : Int) := of_decide_eq_true (by first | (with_reducible assumption) | assumption)
                          have q195 : ((rd_T53 l0_4 x6_1).f1) < (y194.length : Int) := (by have h_ : (((rd_T53 l0_4 x6_1).f1) : Int) < ((x5_1.length : Int) : Int) := of_decide_eq_true (by first | (with_reducible assumption) | assumption); first | (have e_ := (Kd.R_reads' HO_5.out).1; omega) | simpa only [Ny194.out, List.length_set] using h_)
                          have ql195 : ((((rd_T53 l0_4 x6_1).f1) : Int) < ((x5_1.length : Int) : Int)) = True := eq_true (of_decide_eq_true (by first | (with_reducible assumption) | assumption))
                          obtain ⟨ad195, e195, hx195_0⟩ := Kd.at_int (Kd.R_reads' HO_5.out).2.2 ((rd_T53 l0_4 x6_1).f1) p195 q195
                          obtain rfl : (⟨go27, 0, none⟩ : Addr) = ad195 := (by injection e195)
                          (first | simp only [add_plain] at hx195_0 | simp only [add_at] at hx195_0 | simp only [Addr.add, Nat.zero_add] at hx195_0 | skip)
                          replace p195 := eq_true p195
                          replace q195 := eq_true q195
                          have p30 : 0 ≤ (((rd_T53 l0_4 x6_1).f1) : Int) := of_decide_eq_true (by first | (with_reducible assumption) | assumption)
                          have q30 : (((rd_T53 l0_4 x6_1).f1) : Int) < ((x5_1.length : Int) : Int) := of_decide_eq_true (by first | (with_reducible assumption) | assumption)
                          obtain ⟨hx30_0, hf30_0⟩ := Kd.R_celln 0 HO_5.out (((rd_T53 l0_4 x6_1).f1) : Int) p30 q30
                          replace p30 := eq_true p30
                          replace q30 := eq_true q30
                          have HP41 := Kd.R_putn HO_5.out (((rd_T53 l0_4 x6_1).f1) : Int) (wrap64 ((rd y194 ((rd_T53 l0_4 x6_1).f1)) + a0_1))
                          rw [← Ny196.out] at HP41
                          have HQ41 := Aside0.mk HP41
                          clear HP41
                          refine start_ (n := 13) (S := fun w' => w'.cell? ⟨gb189, 0, none⟩ = some (.int .i64 ((rd_T53 l0_4 x6_1).f0)) ∧ w'.cell? ⟨gb189, 1, none⟩ = some (.int .i64 ((rd_T53 l0_4 x6_1).f1)) ∧ w'.cell? ⟨gb181, 0, none⟩ = some (.int .i64 a0_0) ∧ w'.cell? ⟨gb181, 1, none⟩ = some (.int .i64 a0_1) ∧ w'.cell? ⟨gb181, 2, none⟩ = some (.slice A0_2 l0_2.length c0_2) ∧ w'.cell? ⟨gb181, 3, none⟩ = some (.slice A0_3 l0_3.length c0_3) ∧ w'.cell? ⟨gb181, 4, none⟩ = some (.slice (some ad188) l0_4.length c0_4) ∧ w'.cell? ⟨gb181, 5, none⟩ = some (.int .i64 a0_5) ∧ w'.cell? ⟨gb181, 6, none⟩ = some (.int .i64 a0_6) ∧ w'.cell? ⟨go27, (((rd_T53 l0_4 x6_1).f1)).toNat, none⟩ = some (.int .i64 (rd y194 ((rd_T53 l0_4 x6_1).f1)))) (ds := [12]) #[false, false, false, false, false, false, false, false, false, false, false, false, false] (by kernel_rfl) rfl rfl ⟨(blk_cell BK189.out 0).trans rfl, (blk_cell BK189.out 1).trans rfl, (blk_cell BK181.out 0).trans rfl, (blk_cell BK181.out 1).trans rfl, (blk_cell BK181.out 2).trans rfl, (blk_cell BK181.out 3).trans rfl, (blk_cell BK181.out 4).trans rfl, (blk_cell BK181.out 5).trans rfl, (blk_cell BK181.out 6).trans rfl, hx195_0⟩ (fun hHeld => ?_); refine with_tabW assizeref28_finals.tab11 assizeref28_finals.bits11 (fun HT_ HW_ => ?_)
                          generalize w39.drew = w40 at HO_5 BK181 BK189 HB HQ38 HQ41 hf30_0 hx195_0 hx30_0 hHeld ⊢
                          refine pure_ (i := 0) (N := some 55) (v := ?_) (a' := ?_) #[true, false, false, false, false, false, false, false, false, false, false, false, false] rfl rfl (any_of HT_.out (by kernel_rfl)) (fun _ _ _ h => h) (Or.inl ⟨by rfl, ?_⟩) ?_ ?_
                          rotate_left
                          · intro w'
                            go_simp
                            with_reducible rfl
                          rotate_left
                          · simp only [Act.put, List.setIfInBounds_toArray, List.set_cons_zero, List.set_cons_succ, i64_w, i32_w]
                            rfl
                          refine pure_ (i := 1) (N := some 56) (v := ?_) (a' := ?_) #[true, true, false, false, false, false, false, false, false, false, false, false, false] rfl rfl (any_of HT_.out (by kernel_rfl)) (fun _ _ _ h => h) (Or.inl ⟨by rfl, ?_⟩) ?_ ?_
                          rotate_left
                          · intro w'
                            go_simp
                            with_reducible rfl
                          rotate_left
                          · simp only [Act.put, List.setIfInBounds_toArray, List.set_cons_zero, List.set_cons_succ, i64_w, i32_w]
                            rfl
                          refine pure_ (i := 3) (N := some 58) (v := ?_) (a' := ?_) #[true, true, false, true, false, false, false, false, false, false, false, false, false] rfl rfl (any_of HT_.out (by kernel_rfl)) (fun _ _ _ h => h) (Or.inl ⟨by rfl, ?_⟩) ?_ ?_
                          rotate_left
                          · intro w'
                            go_simp
                            with_reducible rfl
                          rotate_left
                          · simp only [Act.put, List.setIfInBounds_toArray, List.set_cons_zero, List.set_cons_succ, i64_w, i32_w]
                            rfl
                          refine pure_ (i := 4) (N := some 59) (v := ?_) (a' := ?_) #[true, true, false, true, true, false, false, false, false, false, false, false, false] rfl rfl (any_of HT_.out (by kernel_rfl)) (fun _ _ _ h => h) (Or.inl ⟨by rfl, ?_⟩) ?_ ?_
                          rotate_left
                          · intro w'
                            go_simp
                            with_reducible rfl
                          rotate_left
                          · simp only [Act.put, List.setIfInBounds_toArray, List.set_cons_zero, List.set_cons_succ, i64_w, i32_w]
                            rfl
                          refine pure_ (i := 8) (N := some 63) (v := ?_) (a' := ?_) #[true, true, false, true, true, false, false, false, true, false, false, false, false] rfl rfl (any_of HT_.out (by kernel_rfl)) (fun _ _ _ h => h) (Or.inl ⟨by rfl, ?_⟩) ?_ ?_
                          rotate_left
                          · intro w'
                            go_simp
                            with_reducible rfl
                          rotate_left
                          · simp only [Act.put, List.setIfInBounds_toArray, List.set_cons_zero, List.set_cons_succ, i64_w, i32_w]
                            rfl
                          refine take_ (i := 2) (N := some 57) (v := ?_) (a' := ?_) #[true, true, true, true, true, false, false, false, true, false, false, false, false] rfl rfl (take_ofW HT_.out HW_.out (by kernel_rfl)) (fun _ _ _ h => h) (Or.inl ⟨by rfl, ?_⟩) hHeld ?_ ?_
                          rotate_left
                          · rintro w' ⟨s0, s1, s2, s3, s4, s5, s6, s7, s8, s9⟩
                            go_simp
                            with_reducible rfl
                          rotate_left
                          · simp only [Act.put, List.setIfInBounds_toArray, List.set_cons_zero, List.set_cons_succ, i64_w, i32_w]
                            rfl
                          refine take_ (i := 5) (N := some 60) (v := ?_) (a' := ?_) #[true, true, true, true, true, true, false, false, true, false, false, false, false] rfl rfl (take_ofW HT_.out HW_.out (by kernel_rfl)) (fun _ _ _ h => h) (Or.inl ⟨by rfl, ?_⟩) hHeld ?_ ?_
                          rotate_left
                          · rintro w' ⟨s0, s1, s2, s3, s4, s5, s6, s7, s8, s9⟩
                            go_simp
                            with_reducible rfl
                          rotate_left
                          · simp only [Act.put, List.setIfInBounds_toArray, List.set_cons_zero, List.set_cons_succ, i64_w, i32_w]
                            rfl
                          refine pure_ (i := 6) (N := some 61) (v := ?_) (a' := ?_) #[true, true, true, true, true, true, true, false, true, false, false, false, false] rfl rfl (any_of HT_.out (by kernel_rfl)) (fun _ _ _ h => h) (Or.inl ⟨by rfl, ?_⟩) ?_ ?_
                          rotate_left
                          · intro w'
                            go_simp
                            with_reducible rfl
                          rotate_left
                          · simp only [Act.put, List.setIfInBounds_toArray, List.set_cons_zero, List.set_cons_succ, i64_w, i32_w]
                            rfl
                          refine take_ (i := 7) (N := some 62) (v := ?_) (a' := ?_) #[true, true, true, true, true, true, true, true, true, false, false, false, false] rfl rfl (take_ofW HT_.out HW_.out (by kernel_rfl)) (fun _ _ _ h => h) (Or.inl ⟨by rfl, ?_⟩) hHeld ?_ ?_
                          rotate_left
                          · rintro w' ⟨s0, s1, s2, s3, s4, s5, s6, s7, s8, s9⟩
                            go_simp
                            with_reducible rfl
                          rotate_left
                          · simp only [Act.put, List.setIfInBounds_toArray, List.set_cons_zero, List.set_cons_succ, i64_w, i32_w]
                            rfl
                          refine take_ (i := 9) (N := some 64) (v := ?_) (a' := ?_) #[true, true, true, true, true, true, true, true, true, true, false, false, false] rfl rfl (take_ofW HT_.out HW_.out (by kernel_rfl)) (fun _ _ _ h => h) (Or.inl ⟨by rfl, ?_⟩) hHeld ?_ ?_
                          rotate_left
                          · rintro w' ⟨s0, s1, s2, s3, s4, s5, s6, s7, s8, s9⟩
                            go_simp
                            with_reducible rfl
                          rotate_left
                          · simp only [Act.put, List.setIfInBounds_toArray, List.set_cons_zero, List.set_cons_succ, i64_w, i32_w]
                            rfl
                          refine pure_ (i := 10) (N := some 65) (v := ?_) (a' := ?_) #[true, true, true, true, true, true, true, true, true, true, true, false, false] rfl rfl (any_of HT_.out (by kernel_rfl)) (fun _ _ _ h => h) (Or.inl ⟨by rfl, ?_⟩) ?_ ?_
                          rotate_left
                          · intro w'
                            go_simp
                            with_reducible rfl
                          rotate_left
                          · simp only [Act.put, List.setIfInBounds_toArray, List.set_cons_zero, List.set_cons_succ, i64_w, i32_w]
                            rfl
                          refine pure_ (i := 11) (N := some 66) (v := ?_) (a' := ?_) #[true, true, true, true, true, true, true, true, true, true, true, true, false] rfl rfl (any_of HT_.out (by kernel_rfl)) (fun _ _ _ h => h) (Or.inl ⟨by rfl, ?_⟩) ?_ ?_
                          rotate_left
                          · intro w'
                            go_simp
                            with_reducible rfl
                          rotate_left
                          · simp only [Act.put, List.setIfInBounds_toArray, List.set_cons_zero, List.set_cons_succ, i64_w, i32_w]
                            rfl
                          refine last_ (i := 12) (N := none) #[true, true, true, true, true, true, true, true, true, true, true, true, true] rfl rfl (one_of HT_.out (by kernel_rfl)) (by decide) (fun K hK => ?_)
                          refine skip_ (w1 := ?_) (by rfl) rfl ?_ ?_
                          rotate_left
                          · go_simp
                            rfl
                          refine hK.out _ _ ?_
                          clear hK K
                          refine done_ (done_of HT_.out (by kernel_rfl)) ?_
                          try go_wp2
                          go_roundg k1
                          case measure => have := HK1.out; omega
                          case rel => exact ⟨(y196), (wrap64 (x6_1 + 1)), (by first | rfl | (simp; done) | (simp [*]; done)), H', ⟨by have := HK1.out; omega⟩, ⟨by (with_reducible repeat (first | apply Kd.R_alloc | apply Kd.R_drewN | apply Kd.R_drew)); exact HQ41.out⟩, ⟨by (with_reducible repeat (first | refine blk_drewN ?_ _ | refine blk_drew ?_ | refine blk_alloc ?_ _)); refine blk_far ?_ (by have h_ := Kd.R_ne HO_5.out BK181.out (by decide); intro e_; exact h_ (by rw [e_]; rfl)) _; (with_reducible repeat (first | refine blk_drewN ?_ _ | refine blk_drew ?_ | refine blk_alloc ?_ _)); exact BK181.out⟩, ⟨by repeat (first | (with_reducible first | exact HB.out | apply below_alloc | apply pw_below_drewN | apply below_drew1 | refine below_set ?_ GB27.out | refine below_set ?_ GE181.out | refine below_set ?_ GE189.out) | exact HB.out)⟩⟩
                        · rw [if_neg c29] at H
                          exact absurd H (by simp)
                      · rw [if_neg c28] at H
                        exact absurd H (by simp)
                    · rw [if_neg c26] at H
                      exact absurd H (by simp)
                  · rw [if_neg c25] at H
                    exact absurd H (by simp)
                · rw [if_neg c24] at H
                  have c24b0 : ((rd l1 x6_1) == 2) = false := beq_eq_false_iff_ne.mpr c24
                  have c24b1 : ((rd l1 x6_1) != 2) = true := bne_iff_ne.mpr c24
                  by_cases c42 : (rd l1 x6_1) = 3
                  · rw [if_pos c42] at H
                    have c42b0 : ((rd l1 x6_1) == 3) = true := beq_iff_eq.mpr c42
                    have c42b1 : ((rd l1 x6_1) != 3) = false := bne_eq_false_iff_eq.mpr c42
                    clear c42
                    by_cases c43 : 0 ≤ ((rd_T53 l0_4 x6_1).f1)
                    · rw [if_pos c43] at H
                      have c43b0 : decide (0 ≤ ((rd_T53 l0_4 x6_1).f1)) = true := decide_eq_true c43
                      clear c43
                      by_cases c44 : ((rd_T53 l0_4 x6_1).f1) < (x5_1.length : Int)
                      · rw [if_pos c44] at H
                        have c44b0 : decide (((rd_T53 l0_4 x6_1).f1) < (x5_1.length : Int)) = true := decide_eq_true c44
                        clear c44
                        obtain ⟨y198, hy198⟩ : ∃ y_ : List Int, y_ = (x5_1.set (((rd_T53 l0_4 x6_1).f1) : Int).toNat (wrap64 ((rd x5_1 ((rd_T53 l0_4 x6_1).f1)) + a0_0))) := ⟨_, rfl⟩
                        replace H : (assizeref28_finals.l0 k1 l1 y198 (wrap64 (x6_1 + 1)) a0_0 a0_1 l0_2 l0_3 l0_4 a0_5 a0_6) = some r := by first | (rw [hy198]; with_reducible exact H) | (have H2_ := (Option.bind_some _ _).symm.trans H; rw [hy198]; with_reducible exact H2_) | (have H2_ := (Option.bind_some _ _).symm.trans H; with_reducible exact H2_) | with_reducible exact H | (rw [hy198]; exact H) | exact H
                        have Ny198 := Aside0.mk hy198
                        clear hy198
                        have H' := Aside0.mk H
                        clear H
                        have hcz46_0 : wr.cell? ⟨gb181, 0, none⟩ = some (.int .i64 a0_0) := (blk_cell BK181.out 0).trans rfl
                        have hcz46_1 : wr.cell? ⟨gb181, 1, none⟩ = some (.int .i64 a0_1) := (blk_cell BK181.out 1).trans rfl
                        have hcz46_2 : wr.cell? ⟨gb181, 2, none⟩ = some (.slice A0_2 l0_2.length c0_2) := (blk_cell BK181.out 2).trans rfl
                        have hcz46_3 : wr.cell? ⟨gb181, 3, none⟩ = some (.slice A0_3 l0_3.length c0_3) := (blk_cell BK181.out 3).trans rfl
                        have hcz46_4 : wr.cell? ⟨gb181, 4, none⟩ = some (.slice A0_4 l0_4.length c0_4) := (blk_cell BK181.out 4).trans rfl
                        have hcz46_5 : wr.cell? ⟨gb181, 5, none⟩ = some (.int .i64 a0_5) := (blk_cell BK181.out 5).trans rfl
                        have hcz46_6 : wr.cell? ⟨gb181, 6, none⟩ = some (.int .i64 a0_6) := (blk_cell BK181.out 6).trans rfl
                        have hfz46_0 := blk_frozen BK181.out 0
                        have hfz46_1 := blk_frozen BK181.out 1
                        have hfz46_2 := blk_frozen BK181.out 2
                        have hfz46_3 := blk_frozen BK181.out 3
                        have hfz46_4 := blk_frozen BK181.out 4
                        have hfz46_5 := blk_frozen BK181.out 5
                        have hfz46_6 := blk_frozen BK181.out 6
                        have p188 : 0 ≤ (x6_1 : Int) := of_decide_eq_true (by first | (with_reducible assumption) | assumption)
                        have q188 : x6_1 < (l0_4.length : Int) := of_decide_eq_true (by first | (with_reducible assumption) | assumption)
                        obtain ⟨ad188, e188, hx188_0, hx188_1⟩ := at_T53 HR0_4.out x6_1 p188 q188
                        cases e188
                        replace hx188_0 := (HB.out.cell (World.block_lt_of_cell? w _ hx188_0)).trans hx188_0
                        replace hx188_1 := (HB.out.cell (World.block_lt_of_cell? w _ hx188_1)).trans hx188_1
                        replace p188 := eq_true p188
                        replace q188 := eq_true q188
                        try go_wp2_with (first | ((with_reducible refine gate_dst (N := 7) rfl ?_); refine box_event ?hg (N := 7) ?hd (cs := #[.int .i64 0, .int .i64 0]) (t := 53) ?hr ?_; (case hd => rfl); (case hg => rfl); (case hr => first | (go_simp; done) | (go_simp; rfl)); intro gb189 hg w47 hbox hb; have n0_ := Aside0.mk (Kd.R_below (by (with_reducible repeat (first | apply Kd.R_alloc | apply Kd.R_drewN | apply Kd.R_drew)); exact HO_5.out) hb); have n1_ := Aside0.mk (blk_below (g := gb181) (o := .cells #[.int .i64 a0_0, .int .i64 a0_1, .slice A0_2 l0_2.length c0_2, .slice A0_3 l0_3.length c0_3, .slice (some ad188) l0_4.length c0_4, .int .i64 a0_5, .int .i64 a0_6] 25 (0, 0)) (by (with_reducible repeat (first | refine blk_drewN ?_ _ | refine blk_drew ?_ | refine blk_alloc ?_ _)); exact BK181.out) hb); have n2_ := Aside0.mk (below_step (by repeat (first | (with_reducible first | exact HB.out | apply below_alloc | apply pw_below_drewN | apply below_drew1 | refine below_set ?_ GE181.out) | exact HB.out)) hb); have n3_ := Aside0.mk (hbox); have n4_ := Aside0.mk ((by rw [hg]; exact (below_size (by repeat (first | (with_reducible first | exact HB.out | apply below_alloc | apply pw_below_drewN | apply below_drew1 | refine below_set ?_ GE181.out) | exact HB.out))) : w.heap.size ≤ gb189)); have n5_ := Aside0.mk ((by rw [hg]; exact (below_size (by repeat (first | (with_reducible first | exact HB.out | apply below_alloc | apply pw_below_drewN | apply below_drew1 | refine below_set ?_ GE181.out) | exact HB.out))) : w.heap.size ≤ gb189)); have n6_ := Aside0.mk ((by rw [hg]; exact Nat.ne_of_lt (blk_lt (g := gb181) (o := .cells #[.int .i64 a0_0, .int .i64 a0_1, .slice A0_2 l0_2.length c0_2, .slice A0_3 l0_3.length c0_3, .slice (some ad188) l0_4.length c0_4, .int .i64 a0_5, .int .i64 a0_6] 25 (0, 0)) (by (with_reducible repeat (first | refine blk_drewN ?_ _ | refine blk_drew ?_ | refine blk_alloc ?_ _)); exact BK181.out)) : gb181 ≠ gb189)); have n7_ := Aside0.mk ((by rw [hg]; exact Nat.ne_of_gt (blk_lt (g := gb181) (o := .cells #[.int .i64 a0_0, .int .i64 a0_1, .slice A0_2 l0_2.length c0_2, .slice A0_3 l0_3.length c0_3, .slice (some ad188) l0_4.length c0_4, .int .i64 a0_5, .int .i64 a0_6] 25 (0, 0)) (by (with_reducible repeat (first | refine blk_drewN ?_ _ | refine blk_drew ?_ | refine blk_alloc ?_ _)); exact BK181.out)) : gb189 ≠ gb181)); clear HO_5; clear BK181; clear HB; have HO_5 := n0_; have BK181 := n1_; have HB := n2_; have BK189 := n3_; have GW189 := n4_; have GE189 := n5_; have NB181_189 := n6_; have NB189_181 := n7_; clear n0_ n1_ n2_ n3_ n4_ n5_ n6_ n7_; clear hb hbox hg; have hnb48 := NB189_181.out; have hnc48 := NB181_189.out; have hcz49_0 : w47.cell? ⟨gb189, 0, none⟩ = some (.int .i64 0) := (blk_cell BK189.out 0).trans rfl; have hcz49_1 : w47.cell? ⟨gb189, 1, none⟩ = some (.int .i64 0) := (blk_cell BK189.out 1).trans rfl; have hfz49_0 := blk_frozen BK189.out 0; have hfz49_1 := blk_frozen BK189.out 1; have p190 : 0 ≤ (x6_1 : Int) := of_decide_eq_true (by first | (with_reducible assumption) | assumption); have q190 : x6_1 < (l1.length : Int) := of_decide_eq_true (by first | (with_reducible assumption) | assumption); obtain ⟨ad190, e190, hx190_0⟩ := Kd.at_int HR1.out x6_1 p190 q190; cases e190; have hn190_0 : ad190.block ≠ gb189 := Nat.ne_of_lt (Nat.lt_of_lt_of_le (by have := World.block_lt_of_cell? _ _ hx190_0; first | rwa [add_block] at this | exact this) GW189.out); have hn190_1 : ad190.block ≠ gb189 := Nat.ne_of_lt (Nat.lt_of_lt_of_le (by have := World.block_lt_of_cell? _ _ hx190_0; first | rwa [add_block] at this | exact this) GW189.out); replace hx190_0 := (HB.out.cell (World.block_lt_of_cell? w _ hx190_0)).trans hx190_0; replace hx190_0 := (cell_far (p := ⟨gb189, 0, none⟩) (by first | (rw [add_block]; exact hn190_0) | (show (Addr.add _ _).block ≠ _; rw [add_block]; exact hn190_0) | exact hn190_0) (.int .i64 ((rd_T53 l0_4 x6_1).f0))).trans hx190_0; replace hx190_0 := (cell_far (p := ⟨gb189, 1, none⟩) (by first | (rw [add_block]; exact hn190_1) | (show (Addr.add _ _).block ≠ _; rw [add_block]; exact hn190_1) | exact hn190_1) (.int .i64 ((rd_T53 l0_4 x6_1).f1))).trans hx190_0; clear hn190_0; clear hn190_1; replace p190 := eq_true p190; replace q190 := eq_true q190))
                        have n0_ : Aside0 (Kd.R (Kd.int .i64) 3 ((w47.setCell ⟨gb189, 0, none⟩ (.int .i64 ((rd_T53 l0_4 x6_1).f0))).setCell ⟨gb189, 1, none⟩ (.int .i64 ((rd_T53 l0_4 x6_1).f1))) w.heap.size (fun _ => True) v186 x5_1) := ⟨by (with_reducible repeat (first | apply Kd.R_alloc | apply Kd.R_drewN | apply Kd.R_drew)); exact Kd.R_mono (Kd.R_far (p := ⟨gb189, 1, none⟩) (Kd.R_far (p := ⟨gb189, 0, none⟩) (Kd.R_types HO_5.out BK189.out (by decide)) (fun _ hk => hk.2) (.int .i64 ((rd_T53 l0_4 x6_1).f0))) (fun _ hk => hk.2) (.int .i64 ((rd_T53 l0_4 x6_1).f1))) (fun _ hk => trivial)⟩
                        have n1_ : Aside0 (((w47.setCell ⟨gb189, 0, none⟩ (.int .i64 ((rd_T53 l0_4 x6_1).f0))).setCell ⟨gb189, 1, none⟩ (.int .i64 ((rd_T53 l0_4 x6_1).f1))).heap[gb181]? = some (.cells #[.int .i64 a0_0, .int .i64 a0_1, .slice A0_2 l0_2.length c0_2, .slice A0_3 l0_3.length c0_3, .slice (some ad188) l0_4.length c0_4, .int .i64 a0_5, .int .i64 a0_6] 25 (0, 0))) := ⟨by (with_reducible repeat (first | refine blk_drewN ?_ _ | refine blk_drew ?_ | refine blk_alloc ?_ _)); refine blk_far ?_ NB181_189.out _; (with_reducible repeat (first | refine blk_drewN ?_ _ | refine blk_drew ?_ | refine blk_alloc ?_ _)); refine blk_far ?_ NB181_189.out _; (with_reducible repeat (first | refine blk_drewN ?_ _ | refine blk_drew ?_ | refine blk_alloc ?_ _)); exact BK181.out⟩
                        have n2_ : Aside0 (((w47.setCell ⟨gb189, 0, none⟩ (.int .i64 ((rd_T53 l0_4 x6_1).f0))).setCell ⟨gb189, 1, none⟩ (.int .i64 ((rd_T53 l0_4 x6_1).f1))).heap[gb189]? = some (.cells #[.int .i64 ((rd_T53 l0_4 x6_1).f0), .int .i64 ((rd_T53 l0_4 x6_1).f1)] 53 (0, 0))) := ⟨by (with_reducible repeat (first | refine blk_drewN ?_ _ | refine blk_drew ?_ | refine blk_alloc ?_ _)); refine blk_put (cs := #[.int .i64 ((rd_T53 l0_4 x6_1).f0), .int .i64 0]) ?_ 1 _ rfl; (with_reducible repeat (first | refine blk_drewN ?_ _ | refine blk_drew ?_ | refine blk_alloc ?_ _)); refine blk_put (cs := #[.int .i64 0, .int .i64 0]) ?_ 0 _ rfl; (with_reducible repeat (first | refine blk_drewN ?_ _ | refine blk_drew ?_ | refine blk_alloc ?_ _)); exact BK189.out⟩
                        have n3_ : Aside0 (Below w.heap.size w ((w47.setCell ⟨gb189, 0, none⟩ (.int .i64 ((rd_T53 l0_4 x6_1).f0))).setCell ⟨gb189, 1, none⟩ (.int .i64 ((rd_T53 l0_4 x6_1).f1)))) := ⟨by repeat (first | (with_reducible first | exact HB.out | apply below_alloc | apply pw_below_drewN | apply below_drew1 | refine below_set ?_ GE181.out | refine below_set ?_ GE189.out) | exact HB.out)⟩
                        (try clear HO_5)
                        (try clear BK181)
                        (try clear BK189)
                        (try clear HB)
                        generalize ((w47.setCell ⟨gb189, 0, none⟩ (.int .i64 ((rd_T53 l0_4 x6_1).f0))).setCell ⟨gb189, 1, none⟩ (.int .i64 ((rd_T53 l0_4 x6_1).f1))) = w50 at n0_ n1_ n2_ n3_ ⊢
                        have HO_5 := n0_
                        have BK181 := n1_
                        have BK189 := n2_
                        have HB := n3_
                        clear n0_ n1_ n2_ n3_
                        have n0_ := Aside0.mk (Kd.R_drew HO_5.out)
                        have n1_ := Aside0.mk (blk_drew BK181.out)
                        have n2_ := Aside0.mk (blk_drew BK189.out)
                        have n3_ := Aside0.mk (below_drew1 HB.out)
                        clear HO_5
                        clear BK181
                        clear BK189
                        clear HB
                        have HO_5 := n0_
                        have BK181 := n1_
                        have BK189 := n2_
                        have HB := n3_
                        clear n0_ n1_ n2_ n3_
                        obtain ⟨Ao52, co52, eo52⟩ := Kd.R_slice HO_5.out
                        (first | subst eo52 | (injection eo52 with f1_ f2_ f3_; have f4_ := f1_.symm; have f5_ := f3_.symm; clear f1_ f2_ f3_; subst f4_; subst f5_))
                        have p197 : 0 ≤ (((rd_T53 l0_4 x6_1).f1) : Int) := of_decide_eq_true (by first | (with_reducible assumption) | assumption)
                        have q197 : ((rd_T53 l0_4 x6_1).f1) < (x5_1.length : Int) := of_decide_eq_true (by first | (with_reducible assumption) | assumption)
                        obtain ⟨ad197, e197, hx197_0⟩ := Kd.at_int (Kd.R_reads' HO_5.out).2.2 ((rd_T53 l0_4 x6_1).f1) p197 q197
                        cases e197
                        replace p197 := eq_true p197
                        replace q197 := eq_true q197
                        have p45 : 0 ≤ (((rd_T53 l0_4 x6_1).f1) : Int) := of_decide_eq_true (by first | (with_reducible assumption) | assumption)
                        have q45 : (((rd_T53 l0_4 x6_1).f1) : Int) < ((x5_1.length : Int) : Int) := of_decide_eq_true (by first | (with_reducible assumption) | assumption)
                        obtain ⟨go45, co45, eo45, gb45, gl45, cl45, HG45⟩ := Kd.R_form HO_5.out (by omega)
                        (first | cases eo45 | (injection eo45 with ea_ en_ ec_; (first | subst ea_ | (injection ea_ with ea_; subst ea_)); subst ec_; clear en_))
                        have GB45 := Aside0.mk gb45
                        have GG45 := Aside0.mk HG45
                        clear gb45 gl45 HG45
                        (first | simp only [add_plain] at hx197_0 | skip)
                        obtain ⟨hx45_0, hf45_0⟩ := Kd.R_celln 0 HO_5.out (((rd_T53 l0_4 x6_1).f1) : Int) p45 q45
                        replace p45 := eq_true p45
                        replace q45 := eq_true q45
                        have HP53 := Kd.R_putn HO_5.out (((rd_T53 l0_4 x6_1).f1) : Int) (wrap64 ((rd x5_1 ((rd_T53 l0_4 x6_1).f1)) + a0_0))
                        rw [← Ny198.out] at HP53
                        have HQ53 := Aside0.mk HP53
                        clear HP53
                        refine start_ (n := 13) (S := fun w' => w'.cell? ⟨gb189, 0, none⟩ = some (.int .i64 ((rd_T53 l0_4 x6_1).f0)) ∧ w'.cell? ⟨gb189, 1, none⟩ = some (.int .i64 ((rd_T53 l0_4 x6_1).f1)) ∧ w'.cell? ⟨gb181, 0, none⟩ = some (.int .i64 a0_0) ∧ w'.cell? ⟨gb181, 1, none⟩ = some (.int .i64 a0_1) ∧ w'.cell? ⟨gb181, 2, none⟩ = some (.slice A0_2 l0_2.length c0_2) ∧ w'.cell? ⟨gb181, 3, none⟩ = some (.slice A0_3 l0_3.length c0_3) ∧ w'.cell? ⟨gb181, 4, none⟩ = some (.slice (some ad188) l0_4.length c0_4) ∧ w'.cell? ⟨gb181, 5, none⟩ = some (.int .i64 a0_5) ∧ w'.cell? ⟨gb181, 6, none⟩ = some (.int .i64 a0_6) ∧ w'.cell? ⟨go45, (((rd_T53 l0_4 x6_1).f1)).toNat, none⟩ = some (.int .i64 (rd x5_1 ((rd_T53 l0_4 x6_1).f1)))) (ds := [12]) #[false, false, false, false, false, false, false, false, false, false, false, false, false] (by kernel_rfl) rfl rfl ⟨(blk_cell BK189.out 0).trans rfl, (blk_cell BK189.out 1).trans rfl, (blk_cell BK181.out 0).trans rfl, (blk_cell BK181.out 1).trans rfl, (blk_cell BK181.out 2).trans rfl, (blk_cell BK181.out 3).trans rfl, (blk_cell BK181.out 4).trans rfl, (blk_cell BK181.out 5).trans rfl, (blk_cell BK181.out 6).trans rfl, hx197_0⟩ (fun hHeld => ?_); refine with_tabW assizeref28_finals.tab13 assizeref28_finals.bits13 (fun HT_ HW_ => ?_)
                        generalize w50.drew = w51 at HO_5 BK181 BK189 HB GG45 HQ53 hf45_0 hx197_0 hx45_0 hHeld ⊢
                        refine pure_ (i := 0) (N := some 69) (v := ?_) (a' := ?_) #[true, false, false, false, false, false, false, false, false, false, false, false, false] rfl rfl (any_of HT_.out (by kernel_rfl)) (fun _ _ _ h => h) (Or.inl ⟨by rfl, ?_⟩) ?_ ?_
                        rotate_left
                        · intro w'
                          go_simp
                          with_reducible rfl
                        rotate_left
                        · simp only [Act.put, List.setIfInBounds_toArray, List.set_cons_zero, List.set_cons_succ, i64_w, i32_w]
                          rfl
                        refine pure_ (i := 1) (N := some 70) (v := ?_) (a' := ?_) #[true, true, false, false, false, false, false, false, false, false, false, false, false] rfl rfl (any_of HT_.out (by kernel_rfl)) (fun _ _ _ h => h) (Or.inl ⟨by rfl, ?_⟩) ?_ ?_
                        rotate_left
                        · intro w'
                          go_simp
                          with_reducible rfl
                        rotate_left
                        · simp only [Act.put, List.setIfInBounds_toArray, List.set_cons_zero, List.set_cons_succ, i64_w, i32_w]
                          rfl
                        refine pure_ (i := 3) (N := some 72) (v := ?_) (a' := ?_) #[true, true, false, true, false, false, false, false, false, false, false, false, false] rfl rfl (any_of HT_.out (by kernel_rfl)) (fun _ _ _ h => h) (Or.inl ⟨by rfl, ?_⟩) ?_ ?_
                        rotate_left
                        · intro w'
                          go_simp
                          with_reducible rfl
                        rotate_left
                        · simp only [Act.put, List.setIfInBounds_toArray, List.set_cons_zero, List.set_cons_succ, i64_w, i32_w]
                          rfl
                        refine pure_ (i := 4) (N := some 73) (v := ?_) (a' := ?_) #[true, true, false, true, true, false, false, false, false, false, false, false, false] rfl rfl (any_of HT_.out (by kernel_rfl)) (fun _ _ _ h => h) (Or.inl ⟨by rfl, ?_⟩) ?_ ?_
                        rotate_left
                        · intro w'
                          go_simp
                          with_reducible rfl
                        rotate_left
                        · simp only [Act.put, List.setIfInBounds_toArray, List.set_cons_zero, List.set_cons_succ, i64_w, i32_w]
                          rfl
                        refine pure_ (i := 8) (N := some 77) (v := ?_) (a' := ?_) #[true, true, false, true, true, false, false, false, true, false, false, false, false] rfl rfl (any_of HT_.out (by kernel_rfl)) (fun _ _ _ h => h) (Or.inl ⟨by rfl, ?_⟩) ?_ ?_
                        rotate_left
                        · intro w'
                          go_simp
                          with_reducible rfl
                        rotate_left
                        · simp only [Act.put, List.setIfInBounds_toArray, List.set_cons_zero, List.set_cons_succ, i64_w, i32_w]
                          rfl
                        refine take_ (i := 2) (N := some 71) (v := ?_) (a' := ?_) #[true, true, true, true, true, false, false, false, true, false, false, false, false] rfl rfl (take_ofW HT_.out HW_.out (by kernel_rfl)) (fun _ _ _ h => h) (Or.inl ⟨by rfl, ?_⟩) hHeld ?_ ?_
                        rotate_left
                        · rintro w' ⟨s0, s1, s2, s3, s4, s5, s6, s7, s8, s9⟩
                          go_simp
                          with_reducible rfl
                        rotate_left
                        · simp only [Act.put, List.setIfInBounds_toArray, List.set_cons_zero, List.set_cons_succ, i64_w, i32_w]
                          rfl
                        refine take_ (i := 5) (N := some 74) (v := ?_) (a' := ?_) #[true, true, true, true, true, true, false, false, true, false, false, false, false] rfl rfl (take_ofW HT_.out HW_.out (by kernel_rfl)) (fun _ _ _ h => h) (Or.inl ⟨by rfl, ?_⟩) hHeld ?_ ?_
                        rotate_left
                        · rintro w' ⟨s0, s1, s2, s3, s4, s5, s6, s7, s8, s9⟩
                          go_simp
                          with_reducible rfl
                        rotate_left
                        · simp only [Act.put, List.setIfInBounds_toArray, List.set_cons_zero, List.set_cons_succ, i64_w, i32_w]
                          rfl
                        refine pure_ (i := 6) (N := some 75) (v := ?_) (a' := ?_) #[true, true, true, true, true, true, true, false, true, false, false, false, false] rfl rfl (any_of HT_.out (by kernel_rfl)) (fun _ _ _ h => h) (Or.inl ⟨by rfl, ?_⟩) ?_ ?_
                        rotate_left
                        · intro w'
                          go_simp
                          with_reducible rfl
                        rotate_left
                        · simp only [Act.put, List.setIfInBounds_toArray, List.set_cons_zero, List.set_cons_succ, i64_w, i32_w]
                          rfl
                        refine take_ (i := 7) (N := some 76) (v := ?_) (a' := ?_) #[true, true, true, true, true, true, true, true, true, false, false, false, false] rfl rfl (take_ofW HT_.out HW_.out (by kernel_rfl)) (fun _ _ _ h => h) (Or.inl ⟨by rfl, ?_⟩) hHeld ?_ ?_
                        rotate_left
                        · rintro w' ⟨s0, s1, s2, s3, s4, s5, s6, s7, s8, s9⟩
                          go_simp
                          with_reducible rfl
                        rotate_left
                        · simp only [Act.put, List.setIfInBounds_toArray, List.set_cons_zero, List.set_cons_succ, i64_w, i32_w]
                          rfl
                        refine take_ (i := 9) (N := some 78) (v := ?_) (a' := ?_) #[true, true, true, true, true, true, true, true, true, true, false, false, false] rfl rfl (take_ofW HT_.out HW_.out (by kernel_rfl)) (fun _ _ _ h => h) (Or.inl ⟨by rfl, ?_⟩) hHeld ?_ ?_
                        rotate_left
                        · rintro w' ⟨s0, s1, s2, s3, s4, s5, s6, s7, s8, s9⟩
                          go_simp
                          with_reducible rfl
                        rotate_left
                        · simp only [Act.put, List.setIfInBounds_toArray, List.set_cons_zero, List.set_cons_succ, i64_w, i32_w]
                          rfl
                        refine pure_ (i := 10) (N := some 79) (v := ?_) (a' := ?_) #[true, true, true, true, true, true, true, true, true, true, true, false, false] rfl rfl (any_of HT_.out (by kernel_rfl)) (fun _ _ _ h => h) (Or.inl ⟨by rfl, ?_⟩) ?_ ?_
                        rotate_left
                        · intro w'
                          go_simp
                          with_reducible rfl
                        rotate_left
                        · simp only [Act.put, List.setIfInBounds_toArray, List.set_cons_zero, List.set_cons_succ, i64_w, i32_w]
                          rfl
                        refine pure_ (i := 11) (N := some 80) (v := ?_) (a' := ?_) #[true, true, true, true, true, true, true, true, true, true, true, true, false] rfl rfl (any_of HT_.out (by kernel_rfl)) (fun _ _ _ h => h) (Or.inl ⟨by rfl, ?_⟩) ?_ ?_
                        rotate_left
                        · intro w'
                          go_simp
                          with_reducible rfl
                        rotate_left
                        · simp only [Act.put, List.setIfInBounds_toArray, List.set_cons_zero, List.set_cons_succ, i64_w, i32_w]
                          rfl
                        refine last_ (i := 12) (N := none) #[true, true, true, true, true, true, true, true, true, true, true, true, true] rfl rfl (one_of HT_.out (by kernel_rfl)) (by decide) (fun K hK => ?_)
                        refine skip_ (w1 := ?_) (by rfl) rfl ?_ ?_
                        rotate_left
                        · go_simp
                          rfl
                        refine hK.out _ _ ?_
                        clear hK K
                        refine done_ (done_of HT_.out (by kernel_rfl)) ?_
                        try go_wp2
                        go_roundg k1
                        case measure => have := HK1.out; omega
                        case rel => exact ⟨(y198), (wrap64 (x6_1 + 1)), (by first | rfl | (simp; done) | (simp [*]; done)), H', ⟨by have := HK1.out; omega⟩, ⟨by (with_reducible repeat (first | apply Kd.R_alloc | apply Kd.R_drewN | apply Kd.R_drew)); exact HQ53.out⟩, ⟨by (with_reducible repeat (first | refine blk_drewN ?_ _ | refine blk_drew ?_ | refine blk_alloc ?_ _)); refine blk_far ?_ (by have h_ := Kd.R_ne HO_5.out BK181.out (by decide); intro e_; exact h_ (by rw [e_]; rfl)) _; (with_reducible repeat (first | refine blk_drewN ?_ _ | refine blk_drew ?_ | refine blk_alloc ?_ _)); exact BK181.out⟩, ⟨by repeat (first | (with_reducible first | exact HB.out | apply below_alloc | apply pw_below_drewN | apply below_drew1 | refine below_set ?_ GB45.out | refine below_set ?_ GE181.out | refine below_set ?_ GE189.out) | exact HB.out)⟩⟩
                      · rw [if_neg c44] at H
                        exact absurd H (by simp)
                    · rw [if_neg c43] at H
                      exact absurd H (by simp)
                  · rw [if_neg c42] at H
                    have c42b0 : ((rd l1 x6_1) == 3) = false := beq_eq_false_iff_ne.mpr c42
                    have c42b1 : ((rd l1 x6_1) != 3) = true := bne_iff_ne.mpr c42
                    have H' := Aside0.mk H
                    clear H
                    have hcz54_0 : wr.cell? ⟨gb181, 0, none⟩ = some (.int .i64 a0_0) := (blk_cell BK181.out 0).trans rfl
                    have hcz54_1 : wr.cell? ⟨gb181, 1, none⟩ = some (.int .i64 a0_1) := (blk_cell BK181.out 1).trans rfl
                    have hcz54_2 : wr.cell? ⟨gb181, 2, none⟩ = some (.slice A0_2 l0_2.length c0_2) := (blk_cell BK181.out 2).trans rfl
                    have hcz54_3 : wr.cell? ⟨gb181, 3, none⟩ = some (.slice A0_3 l0_3.length c0_3) := (blk_cell BK181.out 3).trans rfl
                    have hcz54_4 : wr.cell? ⟨gb181, 4, none⟩ = some (.slice A0_4 l0_4.length c0_4) := (blk_cell BK181.out 4).trans rfl
                    have hcz54_5 : wr.cell? ⟨gb181, 5, none⟩ = some (.int .i64 a0_5) := (blk_cell BK181.out 5).trans rfl
                    have hcz54_6 : wr.cell? ⟨gb181, 6, none⟩ = some (.int .i64 a0_6) := (blk_cell BK181.out 6).trans rfl
                    have hfz54_0 := blk_frozen BK181.out 0
                    have hfz54_1 := blk_frozen BK181.out 1
                    have hfz54_2 := blk_frozen BK181.out 2
                    have hfz54_3 := blk_frozen BK181.out 3
                    have hfz54_4 := blk_frozen BK181.out 4
                    have hfz54_5 := blk_frozen BK181.out 5
                    have hfz54_6 := blk_frozen BK181.out 6
                    have p188 : 0 ≤ (x6_1 : Int) := of_decide_eq_true (by first | (with_reducible assumption) | assumption)
                    have q188 : x6_1 < (l0_4.length : Int) := of_decide_eq_true (by first | (with_reducible assumption) | assumption)
                    obtain ⟨ad188, e188, hx188_0, hx188_1⟩ := at_T53 HR0_4.out x6_1 p188 q188
                    cases e188
                    replace hx188_0 := (HB.out.cell (World.block_lt_of_cell? w _ hx188_0)).trans hx188_0
                    replace hx188_1 := (HB.out.cell (World.block_lt_of_cell? w _ hx188_1)).trans hx188_1
                    replace p188 := eq_true p188
                    replace q188 := eq_true q188
                    go_wp2_with (first | ((with_reducible refine gate_dst (N := 7) rfl ?_); refine box_event ?hg (N := 7) ?hd (cs := #[.int .i64 0, .int .i64 0]) (t := 53) ?hr ?_; (case hd => rfl); (case hg => rfl); (case hr => first | (go_simp; done) | (go_simp; rfl)); intro gb189 hg w55 hbox hb; have n0_ := Aside0.mk (Kd.R_below (by (with_reducible repeat (first | apply Kd.R_alloc | apply Kd.R_drewN | apply Kd.R_drew)); exact HO_5.out) hb); have n1_ := Aside0.mk (blk_below (g := gb181) (o := .cells #[.int .i64 a0_0, .int .i64 a0_1, .slice A0_2 l0_2.length c0_2, .slice A0_3 l0_3.length c0_3, .slice (some ad188) l0_4.length c0_4, .int .i64 a0_5, .int .i64 a0_6] 25 (0, 0)) (by (with_reducible repeat (first | refine blk_drewN ?_ _ | refine blk_drew ?_ | refine blk_alloc ?_ _)); exact BK181.out) hb); have n2_ := Aside0.mk (below_step (by repeat (first | (with_reducible first | exact HB.out | apply below_alloc | apply pw_below_drewN | apply below_drew1 | refine below_set ?_ GE181.out) | exact HB.out)) hb); have n3_ := Aside0.mk (hbox); have n4_ := Aside0.mk ((by rw [hg]; exact (below_size (by repeat (first | (with_reducible first | exact HB.out | apply below_alloc | apply pw_below_drewN | apply below_drew1 | refine below_set ?_ GE181.out) | exact HB.out))) : w.heap.size ≤ gb189)); have n5_ := Aside0.mk ((by rw [hg]; exact (below_size (by repeat (first | (with_reducible first | exact HB.out | apply below_alloc | apply pw_below_drewN | apply below_drew1 | refine below_set ?_ GE181.out) | exact HB.out))) : w.heap.size ≤ gb189)); have n6_ := Aside0.mk ((by rw [hg]; exact Nat.ne_of_lt (blk_lt (g := gb181) (o := .cells #[.int .i64 a0_0, .int .i64 a0_1, .slice A0_2 l0_2.length c0_2, .slice A0_3 l0_3.length c0_3, .slice (some ad188) l0_4.length c0_4, .int .i64 a0_5, .int .i64 a0_6] 25 (0, 0)) (by (with_reducible repeat (first | refine blk_drewN ?_ _ | refine blk_drew ?_ | refine blk_alloc ?_ _)); exact BK181.out)) : gb181 ≠ gb189)); have n7_ := Aside0.mk ((by rw [hg]; exact Nat.ne_of_gt (blk_lt (g := gb181) (o := .cells #[.int .i64 a0_0, .int .i64 a0_1, .slice A0_2 l0_2.length c0_2, .slice A0_3 l0_3.length c0_3, .slice (some ad188) l0_4.length c0_4, .int .i64 a0_5, .int .i64 a0_6] 25 (0, 0)) (by (with_reducible repeat (first | refine blk_drewN ?_ _ | refine blk_drew ?_ | refine blk_alloc ?_ _)); exact BK181.out)) : gb189 ≠ gb181)); clear HO_5; clear BK181; clear HB; have HO_5 := n0_; have BK181 := n1_; have HB := n2_; have BK189 := n3_; have GW189 := n4_; have GE189 := n5_; have NB181_189 := n6_; have NB189_181 := n7_; clear n0_ n1_ n2_ n3_ n4_ n5_ n6_ n7_; clear hb hbox hg; have hnb56 := NB189_181.out; have hnc56 := NB181_189.out; have hcz57_0 : w55.cell? ⟨gb189, 0, none⟩ = some (.int .i64 0) := (blk_cell BK189.out 0).trans rfl; have hcz57_1 : w55.cell? ⟨gb189, 1, none⟩ = some (.int .i64 0) := (blk_cell BK189.out 1).trans rfl; have hfz57_0 := blk_frozen BK189.out 0; have hfz57_1 := blk_frozen BK189.out 1; have p190 : 0 ≤ (x6_1 : Int) := of_decide_eq_true (by first | (with_reducible assumption) | assumption); have q190 : x6_1 < (l1.length : Int) := of_decide_eq_true (by first | (with_reducible assumption) | assumption); obtain ⟨ad190, e190, hx190_0⟩ := Kd.at_int HR1.out x6_1 p190 q190; cases e190; have hn190_0 : ad190.block ≠ gb189 := Nat.ne_of_lt (Nat.lt_of_lt_of_le (by have := World.block_lt_of_cell? _ _ hx190_0; first | rwa [add_block] at this | exact this) GW189.out); have hn190_1 : ad190.block ≠ gb189 := Nat.ne_of_lt (Nat.lt_of_lt_of_le (by have := World.block_lt_of_cell? _ _ hx190_0; first | rwa [add_block] at this | exact this) GW189.out); replace hx190_0 := (HB.out.cell (World.block_lt_of_cell? w _ hx190_0)).trans hx190_0; replace hx190_0 := (cell_far (p := ⟨gb189, 0, none⟩) (by first | (rw [add_block]; exact hn190_0) | (show (Addr.add _ _).block ≠ _; rw [add_block]; exact hn190_0) | exact hn190_0) (.int .i64 ((rd_T53 l0_4 x6_1).f0))).trans hx190_0; replace hx190_0 := (cell_far (p := ⟨gb189, 1, none⟩) (by first | (rw [add_block]; exact hn190_1) | (show (Addr.add _ _).block ≠ _; rw [add_block]; exact hn190_1) | exact hn190_1) (.int .i64 ((rd_T53 l0_4 x6_1).f1))).trans hx190_0; clear hn190_0; clear hn190_1; replace p190 := eq_true p190; replace q190 := eq_true q190))
                    go_roundg k1
                    case measure => have := HK1.out; omega
                    case rel => exact ⟨(x5_1), (wrap64 (x6_1 + 1)), (by first | rfl | (simp; done) | (simp [*]; done)), H', ⟨by have := HK1.out; omega⟩, ⟨by (with_reducible repeat (first | apply Kd.R_alloc | apply Kd.R_drewN | apply Kd.R_drew)); exact Kd.R_mono (Kd.R_far (p := ⟨gb189, 1, none⟩) (Kd.R_far (p := ⟨gb189, 0, none⟩) (Kd.R_types HO_5.out BK189.out (by decide)) (fun _ hk => hk.2) (.int .i64 ((rd_T53 l0_4 x6_1).f0))) (fun _ hk => hk.2) (.int .i64 ((rd_T53 l0_4 x6_1).f1))) (fun _ hk => trivial)⟩, ⟨by (with_reducible repeat (first | refine blk_drewN ?_ _ | refine blk_drew ?_ | refine blk_alloc ?_ _)); refine blk_far ?_ NB181_189.out _; (with_reducible repeat (first | refine blk_drewN ?_ _ | refine blk_drew ?_ | refine blk_alloc ?_ _)); refine blk_far ?_ NB181_189.out _; (with_reducible repeat (first | refine blk_drewN ?_ _ | refine blk_drew ?_ | refine blk_alloc ?_ _)); exact BK181.out⟩, ⟨by repeat (first | (with_reducible first | exact HB.out | apply below_alloc | apply pw_below_drewN | apply below_drew1 | refine below_set ?_ GE181.out | refine below_set ?_ GE189.out) | exact HB.out)⟩⟩
            · rw [if_neg c11] at H
              exact absurd H (by simp)
          · rw [if_neg c10] at H
            exact absurd H (by simp)
        · rw [if_neg c9] at H
          have c9b0 : decide (x6_1 < (l1.length : Int)) = false := decide_eq_false c9
          clear c9
          obtain rfl := Option.some.inj H
          go_wp2
          go_ret
          exact ⟨_, by first | rfl | (simp [errW_none, errW_some] <;> rfl) | (simp [*, errW_none, errW_some] <;> rfl), by (with_reducible repeat (first | apply Kd.R_alloc | apply Kd.R_drewN | apply Kd.R_drew)); exact HO_5.out, by repeat (first | (with_reducible first | exact HB.out | apply below_alloc | apply pw_below_drewN | apply below_drew1 | refine below_set ?_ GE181.out) | exact HB.out)⟩
  · rw [if_neg c3] at H
    exact absurd H (by simp)

end Go.Proofs.YtfiflkjniodbeaaGreatDoor.PReachCheckSpec
