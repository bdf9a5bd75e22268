/- Printed by a program for this claim: the walks of functions that the law reaches. -/
import Derived.Test.YtfiflkjniodbeaaGreatDoorPReachCheckSpecx0
import Derived.Test.YtfiflkjniodbeaaGreatDoorPReachCheckSpecx1
import Derived.Test.YtfiflkjniodbeaaGreatDoorPReachCheckSpecx2
import Derived.Test.YtfiflkjniodbeaaGreatDoorPReachCheckSpecx3
import Derived.Test.YtfiflkjniodbeaaGreatDoorPReachCheckSpecx4
import Derived.Test.YtfiflkjniodbeaaGreatDoorPReachCheckSpecx5
import Derived.Test.YtfiflkjniodbeaaGreatDoorPReachCheckSpecx7
import Derived.Test.YtfiflkjniodbeaaGreatDoorPReachCheckSpecx9
namespace Go.Proofs.YtfiflkjniodbeaaGreatDoor.PReachCheckSpec
open Go.RowKit Go.Proofs.YtfiflkjniodbeaaGreatDoorW.PrintWords Go.Proofs.YtfiflkjniodbeaaGreatDoorW.PrintLast Go.Proofs.YtfiflkjniodbeaaGreatDoorW.PrintMore
attribute [local go_sem] max2_int min2_int max_two min_two max_three min_three max_four min_four   -- for this text's walks alone
set_option linter.unusedVariables false
set_option linter.unusedSimpArgs false

/-! ### assizelaw28_ReachCheckSpec: function 3 -/
def assizelaw28_ReachCheckSpec.j0 : Nat → List Int → Bool → Int → Int → List Int → List Int → List (S53) → Int → Int → Option (Bool)
  | 0, _, _, _, _, _, _, _, _, _ => none
  | k + 1, x1, x35, x208000, x208001, x208002, x208003, x208004, x208005, x208006 => if x35 = true then (some true) else ((reach_Exact.f k x208000 x208001 x208002 x208003 x208004 x208005 x208006).bind fun bt209 => ((assizeref28_Exact.f k x208000 x208001 x208002 x208003 x208004 x208005 x208006).bind fun bt211 => ((reach_Finals.f k x208000 x208001 x208002 x208003 x208004 x208005 x208006 x1).bind fun bt213 => ((assizeref28_Finals.f k x208000 x208001 x208002 x208003 x208004 x208005 x208006 x1).bind fun bt217 => ((reach_Check.f k x208000 x208001 x208002 x208003 x208004 x208005 x208006).bind fun t221 => ((assizeref28_Check.f k x208000 x208001 x208002 x208003 x208004 x208005 x208006).bind fun t222 => (if t221 = t222 then (if (bt209.1 == bt211.1) = true then (if bt209.2 = bt211.2 then ((assizeref28_SameList.f k bt213.1 bt217.1).bind fun t223 => (if t223 = true then (some (bt213.2 == bt217.2)) else (some false))) else (some false)) else (some false)) else (some false))))))))
def assizelaw28_ReachCheckSpec.f (k : Nat) (a0_0 : Int) (a0_1 : Int) (l0_2 : List Int) (l0_3 : List Int) (l0_4 : List (S53)) (a0_5 : Int) (a0_6 : Int) (l1 : List Int) : Option (Bool) := (assizelaw28_sane.f).bind fun t208 => (if t208 = true then (if (l0_2.length : Int) > 30 then (assizelaw28_ReachCheckSpec.j0 k l1 true a0_0 a0_1 l0_2 l0_3 l0_4 a0_5 a0_6) else (if (l0_3.length : Int) > 30 then (assizelaw28_ReachCheckSpec.j0 k l1 true a0_0 a0_1 l0_2 l0_3 l0_4 a0_5 a0_6) else (if (l0_4.length : Int) > 40 then (assizelaw28_ReachCheckSpec.j0 k l1 true a0_0 a0_1 l0_2 l0_3 l0_4 a0_5 a0_6) else (assizelaw28_ReachCheckSpec.j0 k l1 (decide ((l1.length : Int) > 60)) a0_0 a0_1 l0_2 l0_3 l0_4 a0_5 a0_6)))) else (some false))
theorem assizelaw28_ReachCheckSpec.mono_l : ∀ k, (∀ y0 y1 y2 y3 y4 y5 y6 y7 y8, LeO (assizelaw28_ReachCheckSpec.j0 k y0 y1 y2 y3 y4 y5 y6 y7 y8) (assizelaw28_ReachCheckSpec.j0 (k + 1) y0 y1 y2 y3 y4 y5 y6 y7 y8))
  | 0 => fun _ _ _ _ _ _ _ _ _ r h => by simp [assizelaw28_ReachCheckSpec.j0] at h
  | k + 1 => by
    have ih0 := assizelaw28_ReachCheckSpec.mono_l k
    · intro y0 y1 y2 y3 y4 y5 y6 y7 y8
      unfold assizelaw28_ReachCheckSpec.j0
      repeat' first
      | (with_reducible exact ih0 _ _ _ _ _ _ _ _ _)
      | (with_reducible exact assizeref28_Check.mono _ _ _ _ _ _ _ _)
      | (with_reducible exact assizeref28_Exact.mono _ _ _ _ _ _ _ _)
      | (with_reducible exact assizeref28_Finals.mono _ _ _ _ _ _ _ _ _)
      | (with_reducible exact assizeref28_SameList.mono _ _ _)
      | (with_reducible exact reach_Check.mono _ _ _ _ _ _ _ _)
      | (with_reducible exact reach_Exact.mono _ _ _ _ _ _ _ _)
      | (with_reducible exact reach_Finals.mono _ _ _ _ _ _ _ _ _)
      | (with_reducible exact LeO.refl _)
      | (with_reducible exact LeO.none _)
      | (with_reducible refine LeO.ite ?_ ?_)
      | (with_reducible refine LeO.bind ?_ (fun _ => ?_))
      | exact ih0 _ _ _ _ _ _ _ _ _
      | exact assizeref28_Check.mono _ _ _ _ _ _ _ _
      | exact assizeref28_Exact.mono _ _ _ _ _ _ _ _
      | exact assizeref28_Finals.mono _ _ _ _ _ _ _ _ _
      | exact assizeref28_SameList.mono _ _ _
      | exact reach_Check.mono _ _ _ _ _ _ _ _
      | exact reach_Exact.mono _ _ _ _ _ _ _ _
      | exact reach_Finals.mono _ _ _ _ _ _ _ _ _
      | exact LeO.none _
      | refine LeO.ite ?_ ?_
      | refine LeO.bind ?_ (fun _ => ?_)
theorem assizelaw28_ReachCheckSpec.mono : ∀ a0 a1 a2 a3 a4 a5 a6 a7 k, LeO (assizelaw28_ReachCheckSpec.f k a0 a1 a2 a3 a4 a5 a6 a7) (assizelaw28_ReachCheckSpec.f (k + 1) a0 a1 a2 a3 a4 a5 a6 a7) := by
  intro a0 a1 a2 a3 a4 a5 a6 a7 k
  have ih0 := assizelaw28_ReachCheckSpec.mono_l k
  unfold assizelaw28_ReachCheckSpec.f
  repeat' first
      | (with_reducible exact ih0 _ _ _ _ _ _ _ _ _)
      | (with_reducible exact assizeref28_Check.mono _ _ _ _ _ _ _ _)
      | (with_reducible exact assizeref28_Exact.mono _ _ _ _ _ _ _ _)
      | (with_reducible exact assizeref28_Finals.mono _ _ _ _ _ _ _ _ _)
      | (with_reducible exact assizeref28_SameList.mono _ _ _)
      | (with_reducible exact reach_Check.mono _ _ _ _ _ _ _ _)
      | (with_reducible exact reach_Exact.mono _ _ _ _ _ _ _ _)
      | (with_reducible exact reach_Finals.mono _ _ _ _ _ _ _ _ _)
      | (with_reducible exact LeO.refl _)
      | (with_reducible exact LeO.none _)
      | (with_reducible refine LeO.ite ?_ ?_)
      | (with_reducible refine LeO.bind ?_ (fun _ => ?_))
      | exact ih0 _ _ _ _ _ _ _ _ _
      | exact assizeref28_Check.mono _ _ _ _ _ _ _ _
      | exact assizeref28_Exact.mono _ _ _ _ _ _ _ _
      | exact assizeref28_Finals.mono _ _ _ _ _ _ _ _ _
      | exact assizeref28_SameList.mono _ _ _
      | exact reach_Check.mono _ _ _ _ _ _ _ _
      | exact reach_Exact.mono _ _ _ _ _ _ _ _
      | exact reach_Finals.mono _ _ _ _ _ _ _ _ _
      | exact LeO.none _
      | refine LeO.ite ?_ ?_
      | refine LeO.bind ?_ (fun _ => ?_)
def assizelaw28_ReachCheckSpec.T9 : Bool × List (List Nat × List Nat) := (true, [([], []), ([0], [0]), ([], []), ([2, 1], [2]), ([1, 3], [1, 3]), ([4, 3], [4]), ([5], [5]), ([5], [5]), ([6, 7, 5], [5, 6, 7]), ([5, 8], [5, 8]), ([9, 5], [9]), ([10], [10]), ([10], [10]), ([11, 12, 10], [10, 11, 12]), ([10, 13], [10, 13]), ([14, 10], [14]), ([15], [15]), ([15], [15]), ([16, 17, 15, 15], [15, 16, 17]), ([15, 18], [15, 18]), ([19, 18], [19]), ([20], [20]), ([20], [20]), ([21, 22, 20], [20, 21, 22]), ([20, 23], [20, 23]), ([24, 20, 0, 1, 2, 3, 4, 5, 6, 7, 8, 9, 10, 11, 12, 13, 14, 15, 16, 17, 18, 19, 20, 21, 22, 23, 24], [24])])
def assizelaw28_ReachCheckSpec.B9 : List Nat := [0, 1, 0, 7, 15, 31, 63, 63, 255, 511, 1023, 2047, 2047, 8191, 16383, 32767, 65535, 65535, 262143, 524287, 1048575, 2097151, 2097151, 8388607, 16777215, 33554431]
theorem assizelaw28_ReachCheckSpec.tab9 : rtab .any (opsOf Tryz.f3 9) = assizelaw28_ReachCheckSpec.T9 := by kernel_rfl
theorem assizelaw28_ReachCheckSpec.bits9 : waitsOk assizelaw28_ReachCheckSpec.T9.2 assizelaw28_ReachCheckSpec.B9 = true := by kernel_rfl
set_option maxHeartbeats 8000000 in
set_option maxRecDepth 100000 in
theorem assizelaw28_ReachCheckSpec.calls (k : Nat) (a0_0 : Int) (a0_1 : Int) (A0_2 : Option Addr) (c0_2 : Nat) (l0_2 : List Int) (A0_3 : Option Addr) (c0_3 : Nat) (l0_3 : List Int) (A0_4 : Option Addr) (c0_4 : Nat) (l0_4 : List (S53)) (a0_5 : Int) (a0_6 : Int) (A1 : Option Addr) (c1 : Nat) (l1 : List Int) (r : Bool) (w : World) (hr0_2 : Kd.C (Kd.int .i64) w A0_2 l0_2.length l0_2) (hc0_2 : l0_2.length ≤ c0_2) (hr0_3 : Kd.C (Kd.int .i64) w A0_3 l0_3.length l0_3) (hc0_3 : l0_3.length ≤ c0_3) (hr0_4 : Kd.C k53 w A0_4 l0_4.length l0_4) (hc0_4 : l0_4.length ≤ c0_4) (hr1 : Kd.C (Kd.int .i64) w A1 l1.length l1) (hc1 : l1.length ≤ c1) (h : assizelaw28_ReachCheckSpec.f k a0_0 a0_1 l0_2 l0_3 l0_4 a0_5 a0_6 l1 = some r) (hr : r = true) :
    Calls Tryz.prog 3 #[.agg #[.int .i64 a0_0, .int .i64 a0_1, .slice A0_2 l0_2.length c0_2, .slice A0_3 l0_3.length c0_3, .slice A0_4 l0_4.length c0_4, .int .i64 a0_5, .int .i64 a0_6], .slice A1 l1.length c1] w fun e w' => e = .returned (.bool r) ∧ Below w.heap.size w w' := by
  have hu25 := Tryz.underlying25
  have HR0_2 := Aside0.mk hr0_2
  have HC0_2 := Aside0.mk hc0_2
  clear hr0_2 hc0_2
  have HR0_3 := Aside0.mk hr0_3
  have HC0_3 := Aside0.mk hc0_3
  clear hr0_3 hc0_3
  have HR0_4 := Aside0.mk hr0_4
  have HC0_4 := Aside0.mk hc0_4
  clear hr0_4 hc0_4
  have HR1 := Aside0.mk hr1
  have HC1 := Aside0.mk hc1
  clear hr1 hc1
  have HB := Aside0.mk (Below.refl w.heap.size w)
  have H : ((assizelaw28_sane.f).bind fun t208 => (if t208 = true then (if (l0_2.length : Int) > 30 then (assizelaw28_ReachCheckSpec.j0 k l1 true a0_0 a0_1 l0_2 l0_3 l0_4 a0_5 a0_6) else (if (l0_3.length : Int) > 30 then (assizelaw28_ReachCheckSpec.j0 k l1 true a0_0 a0_1 l0_2 l0_3 l0_4 a0_5 a0_6) else (if (l0_4.length : Int) > 40 then (assizelaw28_ReachCheckSpec.j0 k l1 true a0_0 a0_1 l0_2 l0_3 l0_4 a0_5 a0_6) else (assizelaw28_ReachCheckSpec.j0 k l1 (decide ((l1.length : Int) > 60)) a0_0 a0_1 l0_2 l0_3 l0_4 a0_5 a0_6)))) else (some false))) = some r := h
  clear h
  replace H := Option.bind_eq_some_iff.mp H
  obtain ⟨t208, A30, H⟩ := H
  replace H : (if t208 = true then (if (l0_2.length : Int) > 30 then (assizelaw28_ReachCheckSpec.j0 k l1 true a0_0 a0_1 l0_2 l0_3 l0_4 a0_5 a0_6) else (if (l0_3.length : Int) > 30 then (assizelaw28_ReachCheckSpec.j0 k l1 true a0_0 a0_1 l0_2 l0_3 l0_4 a0_5 a0_6) else (if (l0_4.length : Int) > 40 then (assizelaw28_ReachCheckSpec.j0 k l1 true a0_0 a0_1 l0_2 l0_3 l0_4 a0_5 a0_6) else (assizelaw28_ReachCheckSpec.j0 k l1 (decide ((l1.length : Int) > 60)) a0_0 a0_1 l0_2 l0_3 l0_4 a0_5 a0_6)))) else (some false)) = some r := H
  have A3 := Aside0.mk A30
  clear A30
  by_cases c4 : t208 = true
  · subst c4
    have H1 : (if (l0_2.length : Int) > 30 then (assizelaw28_ReachCheckSpec.j0 k l1 true a0_0 a0_1 l0_2 l0_3 l0_4 a0_5 a0_6) else (if (l0_3.length : Int) > 30 then (assizelaw28_ReachCheckSpec.j0 k l1 true a0_0 a0_1 l0_2 l0_3 l0_4 a0_5 a0_6) else (if (l0_4.length : Int) > 40 then (assizelaw28_ReachCheckSpec.j0 k l1 true a0_0 a0_1 l0_2 l0_3 l0_4 a0_5 a0_6) else (assizelaw28_ReachCheckSpec.j0 k l1 (decide ((l1.length : Int) > 60)) a0_0 a0_1 l0_2 l0_3 l0_4 a0_5 a0_6)))) = some r := by rw [if_pos rfl] at H; exact H
    clear H
    have H := H1
    clear H1
    have HC5 := Aside0.mk H
    clear H
    go_enter Tryz.func3, Tryz.ntmps3
    go_upto_region 3 with (first | ((with_reducible refine gate_dst (N := 2) rfl ?_); (try (refine gate_guard (by rfl) ?_; dsimp only)); refine box_event ?hg (N := 2) ?hd (cs := #[.int .i64 a0_0, .int .i64 a0_1, .slice A0_2 l0_2.length c0_2, .slice A0_3 l0_3.length c0_3, .slice A0_4 l0_4.length c0_4, .int .i64 a0_5, .int .i64 a0_6]) (t := 25) ?hr ?_; (case hd => rfl); (case hg => rfl); (case hr => first | (go_simp; done) | (go_simp; rfl)); intro gb207 hg w6 hbox hb; have n0_ := Aside0.mk (below_step (by repeat (first | (with_reducible first | exact HB.out | apply below_alloc | apply pw_below_drewN | apply below_drew1) | exact HB.out)) hb); have n1_ := Aside0.mk (hbox); have n2_ := Aside0.mk ((by rw [hg]; exact (below_size (by repeat (first | (with_reducible first | exact HB.out | apply below_alloc | apply pw_below_drewN | apply below_drew1) | exact HB.out))) : w.heap.size ≤ gb207)); have n3_ := Aside0.mk ((by rw [hg]; exact (below_size (by repeat (first | (with_reducible first | exact HB.out | apply below_alloc | apply pw_below_drewN | apply below_drew1) | exact HB.out))) : w.heap.size ≤ gb207)); clear HB; have HB := n0_; have BK207 := n1_; have GW207 := n2_; have GE207 := n3_; clear n0_ n1_ n2_ n3_; clear hb hbox hg) | ((with_reducible refine gate_callee (f := 5) rfl ?_); refine goesL_ (some 13) rfl rfl Tryz.func5 (by kernel_rfl) rfl #[] rfl (by (try simp only [List.map_toArray, List.map_cons, List.map_nil]); first | done | rfl | (simp only [List.length_drop, List.length_take]; rfl)) ?_; (with_reducible refine (assizelaw28_sane.calls  true _ A3.out).mono ?_); rintro e w7 ⟨rfl, hb⟩; refine ⟨_, rfl, ?_⟩; have n0_ := Aside0.mk (blk_below (g := gb207) (o := .cells #[.int .i64 a0_0, .int .i64 a0_1, .slice A0_2 l0_2.length c0_2, .slice A0_3 l0_3.length c0_3, .slice A0_4 l0_4.length c0_4, .int .i64 a0_5, .int .i64 a0_6] 25 (0, 0)) (by (with_reducible repeat (first | refine blk_drewN ?_ _ | refine blk_drew ?_ | refine blk_alloc ?_ _)); exact BK207.out) hb); have n1_ := Aside0.mk (below_step (by repeat (first | (with_reducible first | exact HB.out | apply below_alloc | apply pw_below_drewN | apply below_drew1 | refine below_set ?_ GE207.out) | exact HB.out)) hb); clear BK207; clear HB; have BK207 := n0_; have HB := n1_; clear n0_ n1_; (try clear hb); (try clear hb2); (try clear hk); (try clear hi)))
    (try simp only [Act.put, List.setIfInBounds_toArray, List.set_cons_zero, List.set_cons_succ])
    go_cut [35] (fun v35 wc => ∃ (kq : Nat) (x35_4 : Bool), v35 = .bool x35_4 ∧ Aside0 (assizelaw28_ReachCheckSpec.j0 kq l1 x35_4 a0_0 a0_1 l0_2 l0_3 l0_4 a0_5 a0_6 = some r) ∧ Aside0 (kq ≤ k) ∧ Aside0 (wc.heap[gb207]? = some (.cells #[.int .i64 a0_0, .int .i64 a0_1, (.slice A0_2 l0_2.length c0_2), (.slice A0_3 l0_3.length c0_3), (.slice A0_4 l0_4.length c0_4), .int .i64 a0_5, .int .i64 a0_6] 25 (0, 0))) ∧ Aside0 (Below w.heap.size w wc))
    case first =>
      have H := HC5.out
      clear HC5
      by_cases c8 : (l0_2.length : Int) > 30
      · rw [if_pos c8] at H
        have c8b0 : decide (30 < (l0_2.length : Int)) = true := decide_eq_true c8
        have c8b1 : decide (30 < l0_2.length) = true := decide_eq_true (by omega)
        clear c8
        (first | rw [c8b0] | (simp only [i64_w, i32_w]; rw [c8b0]) | skip)
        have H' := Aside0.mk H
        clear H
        have hcz9_0 : w7.cell? ⟨gb207, 0, none⟩ = some (.int .i64 a0_0) := (blk_cell BK207.out 0).trans rfl
        have hcz9_1 : w7.cell? ⟨gb207, 1, none⟩ = some (.int .i64 a0_1) := (blk_cell BK207.out 1).trans rfl
        have hcz9_2 : w7.cell? ⟨gb207, 2, none⟩ = some (.slice A0_2 l0_2.length c0_2) := (blk_cell BK207.out 2).trans rfl
        have hcz9_3 : w7.cell? ⟨gb207, 3, none⟩ = some (.slice A0_3 l0_3.length c0_3) := (blk_cell BK207.out 3).trans rfl
        have hcz9_4 : w7.cell? ⟨gb207, 4, none⟩ = some (.slice A0_4 l0_4.length c0_4) := (blk_cell BK207.out 4).trans rfl
        have hcz9_5 : w7.cell? ⟨gb207, 5, none⟩ = some (.int .i64 a0_5) := (blk_cell BK207.out 5).trans rfl
        have hcz9_6 : w7.cell? ⟨gb207, 6, none⟩ = some (.int .i64 a0_6) := (blk_cell BK207.out 6).trans rfl
        have hfz9_0 := blk_frozen BK207.out 0
        have hfz9_1 := blk_frozen BK207.out 1
        have hfz9_2 := blk_frozen BK207.out 2
        have hfz9_3 := blk_frozen BK207.out 3
        have hfz9_4 := blk_frozen BK207.out 4
        have hfz9_5 := blk_frozen BK207.out 5
        have hfz9_6 := blk_frozen BK207.out 6
        go_wp2
        go_meet
        case rel => exact ⟨_, (true), (by first | rfl | (simp; done) | (simp [*]; done)), H', ⟨by first | omega | exact Nat.le_refl _⟩, ⟨by (with_reducible repeat (first | refine blk_drewN ?_ _ | refine blk_drew ?_ | refine blk_alloc ?_ _)); exact BK207.out⟩, ⟨by repeat (first | (with_reducible first | exact HB.out | apply below_alloc | apply pw_below_drewN | apply below_drew1 | refine below_set ?_ GE207.out) | exact HB.out)⟩⟩
      · rw [if_neg c8] at H
        have c8b0 : decide (30 < (l0_2.length : Int)) = false := decide_eq_false c8
        have c8b1 : decide (30 < l0_2.length) = false := decide_eq_false (by omega)
        clear c8
        (first | rw [c8b0] | (simp only [i64_w, i32_w]; rw [c8b0]) | skip)
        by_cases c10 : (l0_3.length : Int) > 30
        · rw [if_pos c10] at H
          have c10b0 : decide (30 < (l0_3.length : Int)) = true := decide_eq_true c10
          have c10b1 : decide (30 < l0_3.length) = true := decide_eq_true (by omega)
          clear c10
          have H' := Aside0.mk H
          clear H
          have hcz11_0 : w7.cell? ⟨gb207, 0, none⟩ = some (.int .i64 a0_0) := (blk_cell BK207.out 0).trans rfl
          have hcz11_1 : w7.cell? ⟨gb207, 1, none⟩ = some (.int .i64 a0_1) := (blk_cell BK207.out 1).trans rfl
          have hcz11_2 : w7.cell? ⟨gb207, 2, none⟩ = some (.slice A0_2 l0_2.length c0_2) := (blk_cell BK207.out 2).trans rfl
          have hcz11_3 : w7.cell? ⟨gb207, 3, none⟩ = some (.slice A0_3 l0_3.length c0_3) := (blk_cell BK207.out 3).trans rfl
          have hcz11_4 : w7.cell? ⟨gb207, 4, none⟩ = some (.slice A0_4 l0_4.length c0_4) := (blk_cell BK207.out 4).trans rfl
          have hcz11_5 : w7.cell? ⟨gb207, 5, none⟩ = some (.int .i64 a0_5) := (blk_cell BK207.out 5).trans rfl
          have hcz11_6 : w7.cell? ⟨gb207, 6, none⟩ = some (.int .i64 a0_6) := (blk_cell BK207.out 6).trans rfl
          have hfz11_0 := blk_frozen BK207.out 0
          have hfz11_1 := blk_frozen BK207.out 1
          have hfz11_2 := blk_frozen BK207.out 2
          have hfz11_3 := blk_frozen BK207.out 3
          have hfz11_4 := blk_frozen BK207.out 4
          have hfz11_5 := blk_frozen BK207.out 5
          have hfz11_6 := blk_frozen BK207.out 6
          go_wp2
          go_meet
          case rel => exact ⟨_, (true), (by first | rfl | (simp; done) | (simp [*]; done)), H', ⟨by first | omega | exact Nat.le_refl _⟩, ⟨by (with_reducible repeat (first | refine blk_drewN ?_ _ | refine blk_drew ?_ | refine blk_alloc ?_ _)); exact BK207.out⟩, ⟨by repeat (first | (with_reducible first | exact HB.out | apply below_alloc | apply pw_below_drewN | apply below_drew1 | refine below_set ?_ GE207.out) | exact HB.out)⟩⟩
        · rw [if_neg c10] at H
          have c10b0 : decide (30 < (l0_3.length : Int)) = false := decide_eq_false c10
          have c10b1 : decide (30 < l0_3.length) = false := decide_eq_false (by omega)
          clear c10
          by_cases c12 : (l0_4.length : Int) > 40
          · rw [if_pos c12] at H
            have c12b0 : decide (40 < (l0_4.length : Int)) = true := decide_eq_true c12
            have c12b1 : decide (40 < l0_4.length) = true := decide_eq_true (by omega)
            clear c12
            have H' := Aside0.mk H
            clear H
            have hcz13_0 : w7.cell? ⟨gb207, 0, none⟩ = some (.int .i64 a0_0) := (blk_cell BK207.out 0).trans rfl
            have hcz13_1 : w7.cell? ⟨gb207, 1, none⟩ = some (.int .i64 a0_1) := (blk_cell BK207.out 1).trans rfl
            have hcz13_2 : w7.cell? ⟨gb207, 2, none⟩ = some (.slice A0_2 l0_2.length c0_2) := (blk_cell BK207.out 2).trans rfl
            have hcz13_3 : w7.cell? ⟨gb207, 3, none⟩ = some (.slice A0_3 l0_3.length c0_3) := (blk_cell BK207.out 3).trans rfl
            have hcz13_4 : w7.cell? ⟨gb207, 4, none⟩ = some (.slice A0_4 l0_4.length c0_4) := (blk_cell BK207.out 4).trans rfl
            have hcz13_5 : w7.cell? ⟨gb207, 5, none⟩ = some (.int .i64 a0_5) := (blk_cell BK207.out 5).trans rfl
            have hcz13_6 : w7.cell? ⟨gb207, 6, none⟩ = some (.int .i64 a0_6) := (blk_cell BK207.out 6).trans rfl
            have hfz13_0 := blk_frozen BK207.out 0
            have hfz13_1 := blk_frozen BK207.out 1
            have hfz13_2 := blk_frozen BK207.out 2
            have hfz13_3 := blk_frozen BK207.out 3
            have hfz13_4 := blk_frozen BK207.out 4
            have hfz13_5 := blk_frozen BK207.out 5
            have hfz13_6 := blk_frozen BK207.out 6
            go_wp2
            go_meet
            case rel => exact ⟨_, (true), (by first | rfl | (simp; done) | (simp [*]; done)), H', ⟨by first | omega | exact Nat.le_refl _⟩, ⟨by (with_reducible repeat (first | refine blk_drewN ?_ _ | refine blk_drew ?_ | refine blk_alloc ?_ _)); exact BK207.out⟩, ⟨by repeat (first | (with_reducible first | exact HB.out | apply below_alloc | apply pw_below_drewN | apply below_drew1 | refine below_set ?_ GE207.out) | exact HB.out)⟩⟩
          · rw [if_neg c12] at H
            have c12b0 : decide (40 < (l0_4.length : Int)) = false := decide_eq_false c12
            have c12b1 : decide (40 < l0_4.length) = false := decide_eq_false (by omega)
            clear c12
            have H' := Aside0.mk H
            clear H
            have hcz14_0 : w7.cell? ⟨gb207, 0, none⟩ = some (.int .i64 a0_0) := (blk_cell BK207.out 0).trans rfl
            have hcz14_1 : w7.cell? ⟨gb207, 1, none⟩ = some (.int .i64 a0_1) := (blk_cell BK207.out 1).trans rfl
            have hcz14_2 : w7.cell? ⟨gb207, 2, none⟩ = some (.slice A0_2 l0_2.length c0_2) := (blk_cell BK207.out 2).trans rfl
            have hcz14_3 : w7.cell? ⟨gb207, 3, none⟩ = some (.slice A0_3 l0_3.length c0_3) := (blk_cell BK207.out 3).trans rfl
            have hcz14_4 : w7.cell? ⟨gb207, 4, none⟩ = some (.slice A0_4 l0_4.length c0_4) := (blk_cell BK207.out 4).trans rfl
            have hcz14_5 : w7.cell? ⟨gb207, 5, none⟩ = some (.int .i64 a0_5) := (blk_cell BK207.out 5).trans rfl
            have hcz14_6 : w7.cell? ⟨gb207, 6, none⟩ = some (.int .i64 a0_6) := (blk_cell BK207.out 6).trans rfl
            have hfz14_0 := blk_frozen BK207.out 0
            have hfz14_1 := blk_frozen BK207.out 1
            have hfz14_2 := blk_frozen BK207.out 2
            have hfz14_3 := blk_frozen BK207.out 3
            have hfz14_4 := blk_frozen BK207.out 4
            have hfz14_5 := blk_frozen BK207.out 5
            have hfz14_6 := blk_frozen BK207.out 6
            go_wp2
            go_meet
            case rel => exact ⟨_, (decide ((l1.length : Int) > 60)), (by first | rfl | (simp; done) | (simp [*]; done)), H', ⟨by first | omega | exact Nat.le_refl _⟩, ⟨by (with_reducible repeat (first | refine blk_drewN ?_ _ | refine blk_drew ?_ | refine blk_alloc ?_ _)); exact BK207.out⟩, ⟨by repeat (first | (with_reducible first | exact HB.out | apply below_alloc | apply pw_below_drewN | apply below_drew1 | refine below_set ?_ GE207.out) | exact HB.out)⟩⟩
    case rest =>
      clear HC5
      try clear c1
      try clear p2
      try clear c3
      try clear c4
      try clear c5
      try clear c8
      try clear c8b0
      try clear c8b1
      try clear c10
      try clear c10b0
      try clear c10b1
      try clear c12
      try clear c12b0
      try clear c12b1
      try clear hcz11_0
      try clear hcz11_1
      try clear hcz11_2
      try clear hcz11_3
      try clear hcz11_4
      try clear hcz11_5
      try clear hcz11_6
      try clear hcz13_0
      try clear hcz13_1
      try clear hcz13_2
      try clear hcz13_3
      try clear hcz13_4
      try clear hcz13_5
      try clear hcz13_6
      try clear hcz14_0
      try clear hcz14_1
      try clear hcz14_2
      try clear hcz14_3
      try clear hcz14_4
      try clear hcz14_5
      try clear hcz14_6
      try clear hcz9_0
      try clear hcz9_1
      try clear hcz9_2
      try clear hcz9_3
      try clear hcz9_4
      try clear hcz9_5
      try clear hcz9_6
      try clear hfz11_0
      try clear hfz11_1
      try clear hfz11_2
      try clear hfz11_3
      try clear hfz11_4
      try clear hfz11_5
      try clear hfz11_6
      try clear hfz13_0
      try clear hfz13_1
      try clear hfz13_2
      try clear hfz13_3
      try clear hfz13_4
      try clear hfz13_5
      try clear hfz13_6
      try clear hfz14_0
      try clear hfz14_1
      try clear hfz14_2
      try clear hfz14_3
      try clear hfz14_4
      try clear hfz14_5
      try clear hfz14_6
      try clear hfz9_0
      try clear hfz9_1
      try clear hfz9_2
      try clear hfz9_3
      try clear hfz9_4
      try clear hfz9_5
      try clear hfz9_6
      obtain ⟨kq, x35_4, rfl, HA, HJ4, BK207, HB⟩ := hcut
      cases kq with
      | zero => exact absurd HA.out (by simp [assizelaw28_ReachCheckSpec.j0])
      | succ kj4 =>
        have H := HA.out
        clear HA
        simp only [assizelaw28_ReachCheckSpec.j0] at H
        by_cases c15 : x35_4 = true
        · subst c15
          have H1 : (some true) = some r := by rw [if_pos rfl] at H; exact H
          clear H
          have H := H1
          clear H1
          obtain rfl := Option.some.inj H
          go_wp2
          go_ret
          exact ⟨by first | rfl | (simp [errW_none, errW_some] <;> rfl) | (simp [*, errW_none, errW_some] <;> rfl), by repeat (first | (with_reducible first | exact HB.out | apply below_alloc | apply pw_below_drewN | apply below_drew1 | refine below_set ?_ GE207.out) | exact HB.out)⟩
        · replace c15 := Bool.eq_false_iff.mpr c15
          subst c15
          have H1 : ((reach_Exact.f kj4 a0_0 a0_1 l0_2 l0_3 l0_4 a0_5 a0_6).bind fun bt209 => ((assizeref28_Exact.f kj4 a0_0 a0_1 l0_2 l0_3 l0_4 a0_5 a0_6).bind fun bt211 => ((reach_Finals.f kj4 a0_0 a0_1 l0_2 l0_3 l0_4 a0_5 a0_6 l1).bind fun bt213 => ((assizeref28_Finals.f kj4 a0_0 a0_1 l0_2 l0_3 l0_4 a0_5 a0_6 l1).bind fun bt217 => ((reach_Check.f kj4 a0_0 a0_1 l0_2 l0_3 l0_4 a0_5 a0_6).bind fun t221 => ((assizeref28_Check.f kj4 a0_0 a0_1 l0_2 l0_3 l0_4 a0_5 a0_6).bind fun t222 => (if t221 = t222 then (if (bt209.1 == bt211.1) = true then (if bt209.2 = bt211.2 then ((assizeref28_SameList.f kj4 bt213.1 bt217.1).bind fun t223 => (if t223 = true then (some (bt213.2 == bt217.2)) else (some false))) else (some false)) else (some false)) else (some false)))))))) = some r := by rw [if_neg (show ¬ (false = true) by decide)] at H; exact H
          clear H
          have H := H1
          clear H1
          replace H := Option.bind_eq_some_iff.mp H
          obtain ⟨⟨t209, t210⟩, A160, H⟩ := H
          replace H : ((assizeref28_Exact.f kj4 a0_0 a0_1 l0_2 l0_3 l0_4 a0_5 a0_6).bind fun bt211 => ((reach_Finals.f kj4 a0_0 a0_1 l0_2 l0_3 l0_4 a0_5 a0_6 l1).bind fun bt213 => ((assizeref28_Finals.f kj4 a0_0 a0_1 l0_2 l0_3 l0_4 a0_5 a0_6 l1).bind fun bt217 => ((reach_Check.f kj4 a0_0 a0_1 l0_2 l0_3 l0_4 a0_5 a0_6).bind fun t221 => ((assizeref28_Check.f kj4 a0_0 a0_1 l0_2 l0_3 l0_4 a0_5 a0_6).bind fun t222 => (if t221 = t222 then (if (t209 == bt211.1) = true then (if t210 = bt211.2 then ((assizeref28_SameList.f kj4 bt213.1 bt217.1).bind fun t223 => (if t223 = true then (some (bt213.2 == bt217.2)) else (some false))) else (some false)) else (some false)) else (some false))))))) = some r := H
          have A16 := Aside0.mk A160
          clear A160
          replace H := Option.bind_eq_some_iff.mp H
          obtain ⟨⟨t211, t212⟩, A170, H⟩ := H
          replace H : ((reach_Finals.f kj4 a0_0 a0_1 l0_2 l0_3 l0_4 a0_5 a0_6 l1).bind fun bt213 => ((assizeref28_Finals.f kj4 a0_0 a0_1 l0_2 l0_3 l0_4 a0_5 a0_6 l1).bind fun bt217 => ((reach_Check.f kj4 a0_0 a0_1 l0_2 l0_3 l0_4 a0_5 a0_6).bind fun t221 => ((assizeref28_Check.f kj4 a0_0 a0_1 l0_2 l0_3 l0_4 a0_5 a0_6).bind fun t222 => (if t221 = t222 then (if (t209 == t211) = true then (if t210 = t212 then ((assizeref28_SameList.f kj4 bt213.1 bt217.1).bind fun t223 => (if t223 = true then (some (bt213.2 == bt217.2)) else (some false))) else (some false)) else (some false)) else (some false)))))) = some r := H
          have A17 := Aside0.mk A170
          clear A170
          replace H := Option.bind_eq_some_iff.mp H
          obtain ⟨⟨t213, t216⟩, A180, H⟩ := H
          replace H : ((assizeref28_Finals.f kj4 a0_0 a0_1 l0_2 l0_3 l0_4 a0_5 a0_6 l1).bind fun bt217 => ((reach_Check.f kj4 a0_0 a0_1 l0_2 l0_3 l0_4 a0_5 a0_6).bind fun t221 => ((assizeref28_Check.f kj4 a0_0 a0_1 l0_2 l0_3 l0_4 a0_5 a0_6).bind fun t222 => (if t221 = t222 then (if (t209 == t211) = true then (if t210 = t212 then ((assizeref28_SameList.f kj4 t213 bt217.1).bind fun t223 => (if t223 = true then (some (t216 == bt217.2)) else (some false))) else (some false)) else (some false)) else (some false))))) = some r := H
          have A18 := Aside0.mk A180
          clear A180
          replace H := Option.bind_eq_some_iff.mp H
          obtain ⟨⟨t217, t220⟩, A190, H⟩ := H
          replace H : ((reach_Check.f kj4 a0_0 a0_1 l0_2 l0_3 l0_4 a0_5 a0_6).bind fun t221 => ((assizeref28_Check.f kj4 a0_0 a0_1 l0_2 l0_3 l0_4 a0_5 a0_6).bind fun t222 => (if t221 = t222 then (if (t209 == t211) = true then (if t210 = t212 then ((assizeref28_SameList.f kj4 t213 t217).bind fun t223 => (if t223 = true then (some (t216 == t220)) else (some false))) else (some false)) else (some false)) else (some false)))) = some r := H
          have A19 := Aside0.mk A190
          clear A190
          replace H := Option.bind_eq_some_iff.mp H
          obtain ⟨t221, A200, H⟩ := H
          replace H : ((assizeref28_Check.f kj4 a0_0 a0_1 l0_2 l0_3 l0_4 a0_5 a0_6).bind fun t222 => (if t221 = t222 then (if (t209 == t211) = true then (if t210 = t212 then ((assizeref28_SameList.f kj4 t213 t217).bind fun t223 => (if t223 = true then (some (t216 == t220)) else (some false))) else (some false)) else (some false)) else (some false))) = some r := H
          have A20 := Aside0.mk A200
          clear A200
          replace H := Option.bind_eq_some_iff.mp H
          obtain ⟨t222, A210, H⟩ := H
          replace H : (if t221 = t222 then (if (t209 == t211) = true then (if t210 = t212 then ((assizeref28_SameList.f kj4 t213 t217).bind fun t223 => (if t223 = true then (some (t216 == t220)) else (some false))) else (some false)) else (some false)) else (some false)) = some r := H
          have A21 := Aside0.mk A210
          clear A210
          by_cases c22 : t221 = t222
          · rw [if_pos c22] at H
            have c22b0 : (t221 == t222) = true := beq_iff_eq.mpr c22
            have c22b1 : (t221 != t222) = false := bne_eq_false_iff_eq.mpr c22
            clear c22
            by_cases c23 : (t209 == t211) = true
            · rw [if_pos c23] at H
              have c23b0 : (t209 == t211) = true := c23
              (try (have c23b1 : decide (t209 = t211) = true := by simpa using c23))
              (try (have c23b2 : (t209 == t211) = true := by simpa using c23))
              clear c23
              by_cases c24 : t210 = t212
              · rw [if_pos c24] at H
                have c24b0 : (t210 == t212) = true := beq_iff_eq.mpr c24
                have c24b1 : (t210 != t212) = false := bne_eq_false_iff_eq.mpr c24
                clear c24
                replace H := Option.bind_eq_some_iff.mp H
                obtain ⟨t223, A250, H⟩ := H
                replace H : (if t223 = true then (some (t216 == t220)) else (some false)) = some r := H
                have A25 := Aside0.mk A250
                clear A250
                by_cases c26 : t223 = true
                · subst c26
                  have H1 : (some (t216 == t220)) = some r := by rw [if_pos rfl] at H; exact H
                  clear H
                  have H := H1
                  clear H1
                  obtain rfl := Option.some.inj H
                  have hcz27_0 : wc.cell? ⟨gb207, 0, none⟩ = some (.int .i64 a0_0) := (blk_cell BK207.out 0).trans rfl
                  have hcz27_1 : wc.cell? ⟨gb207, 1, none⟩ = some (.int .i64 a0_1) := (blk_cell BK207.out 1).trans rfl
                  have hcz27_2 : wc.cell? ⟨gb207, 2, none⟩ = some (.slice A0_2 l0_2.length c0_2) := (blk_cell BK207.out 2).trans rfl
                  have hcz27_3 : wc.cell? ⟨gb207, 3, none⟩ = some (.slice A0_3 l0_3.length c0_3) := (blk_cell BK207.out 3).trans rfl
                  have hcz27_4 : wc.cell? ⟨gb207, 4, none⟩ = some (.slice A0_4 l0_4.length c0_4) := (blk_cell BK207.out 4).trans rfl
                  have hcz27_5 : wc.cell? ⟨gb207, 5, none⟩ = some (.int .i64 a0_5) := (blk_cell BK207.out 5).trans rfl
                  have hcz27_6 : wc.cell? ⟨gb207, 6, none⟩ = some (.int .i64 a0_6) := (blk_cell BK207.out 6).trans rfl
                  have hfz27_0 := blk_frozen BK207.out 0
                  have hfz27_1 := blk_frozen BK207.out 1
                  have hfz27_2 := blk_frozen BK207.out 2
                  have hfz27_3 := blk_frozen BK207.out 3
                  have hfz27_4 := blk_frozen BK207.out 4
                  have hfz27_5 := blk_frozen BK207.out 5
                  have hfz27_6 := blk_frozen BK207.out 6
                  try go_wp2_with (first | ((with_reducible refine gate_callee (f := 6) rfl ?_); refine goesL_ (some 38) rfl rfl Tryz.func6 (by kernel_rfl) rfl #[.agg #[.int .i64 a0_0, .int .i64 a0_1, .slice A0_2 l0_2.length c0_2, .slice A0_3 l0_3.length c0_3, .slice A0_4 l0_4.length c0_4, .int .i64 a0_5, .int .i64 a0_6]] rfl (by (try simp only [List.map_toArray, List.map_cons, List.map_nil]); first | done | rfl | (simp only [List.length_drop, List.length_take]; rfl)) ?_; (with_reducible refine (reach_Exact.calls kj4 a0_0 a0_1 _ _ l0_2 _ _ l0_3 _ _ l0_4 a0_5 a0_6 t209 t210 _ ?side1 ?side2 ?side3 ?side4 ?side5 ?side6 A16.out).mono ?_); (case side1 => repeat (first | exact (Kd.C_below HR0_2.out HB.out) | (with_reducible refine Kd.C_alloc ?_ _) | (with_reducible refine Kd.C_drewN ?_ _) | (with_reducible refine Kd.C_drew ?_))); (case side2 => exact HC0_2.out); (case side3 => repeat (first | exact (Kd.C_below HR0_3.out HB.out) | (with_reducible refine Kd.C_alloc ?_ _) | (with_reducible refine Kd.C_drewN ?_ _) | (with_reducible refine Kd.C_drew ?_))); (case side4 => exact HC0_3.out); (case side5 => repeat (first | exact (Kd.C_below HR0_4.out HB.out) | (with_reducible refine Kd.C_alloc ?_ _) | (with_reducible refine Kd.C_drewN ?_ _) | (with_reducible refine Kd.C_drew ?_))); (case side6 => exact HC0_4.out); rintro e w28 ⟨rfl, hb⟩; refine ⟨_, rfl, ?_⟩; have n0_ := Aside0.mk (blk_below (g := gb207) (o := .cells #[.int .i64 a0_0, .int .i64 a0_1, .slice A0_2 l0_2.length c0_2, .slice A0_3 l0_3.length c0_3, .slice A0_4 l0_4.length c0_4, .int .i64 a0_5, .int .i64 a0_6] 25 (0, 0)) (by (with_reducible repeat (first | refine blk_drewN ?_ _ | refine blk_drew ?_ | refine blk_alloc ?_ _)); exact BK207.out) hb); have n1_ := Aside0.mk (below_step (by repeat (first | (with_reducible first | exact HB.out | apply below_alloc | apply pw_below_drewN | apply below_drew1 | refine below_set ?_ GE207.out) | exact HB.out)) hb); clear BK207; clear HB; have BK207 := n0_; have HB := n1_; clear n0_ n1_; (try clear hb); (try clear hb2); (try clear hk); (try clear hi); have hcz29_0 : w28.cell? ⟨gb207, 0, none⟩ = some (.int .i64 a0_0) := (blk_cell BK207.out 0).trans rfl; have hcz29_1 : w28.cell? ⟨gb207, 1, none⟩ = some (.int .i64 a0_1) := (blk_cell BK207.out 1).trans rfl; have hcz29_2 : w28.cell? ⟨gb207, 2, none⟩ = some (.slice A0_2 l0_2.length c0_2) := (blk_cell BK207.out 2).trans rfl; have hcz29_3 : w28.cell? ⟨gb207, 3, none⟩ = some (.slice A0_3 l0_3.length c0_3) := (blk_cell BK207.out 3).trans rfl; have hcz29_4 : w28.cell? ⟨gb207, 4, none⟩ = some (.slice A0_4 l0_4.length c0_4) := (blk_cell BK207.out 4).trans rfl; have hcz29_5 : w28.cell? ⟨gb207, 5, none⟩ = some (.int .i64 a0_5) := (blk_cell BK207.out 5).trans rfl; have hcz29_6 : w28.cell? ⟨gb207, 6, none⟩ = some (.int .i64 a0_6) := (blk_cell BK207.out 6).trans rfl; have hfz29_0 := blk_frozen BK207.out 0; have hfz29_1 := blk_frozen BK207.out 1; have hfz29_2 := blk_frozen BK207.out 2; have hfz29_3 := blk_frozen BK207.out 3; have hfz29_4 := blk_frozen BK207.out 4; have hfz29_5 := blk_frozen BK207.out 5; have hfz29_6 := blk_frozen BK207.out 6) | ((with_reducible refine gate_callee (f := 7) rfl ?_); refine goesL_ (some 43) rfl rfl Tryz.func7 (by kernel_rfl) rfl #[.agg #[.int .i64 a0_0, .int .i64 a0_1, .slice A0_2 l0_2.length c0_2, .slice A0_3 l0_3.length c0_3, .slice A0_4 l0_4.length c0_4, .int .i64 a0_5, .int .i64 a0_6]] rfl (by (try simp only [List.map_toArray, List.map_cons, List.map_nil]); first | done | rfl | (simp only [List.length_drop, List.length_take]; rfl)) ?_; (with_reducible refine (assizeref28_Exact.calls kj4 a0_0 a0_1 _ _ l0_2 _ _ l0_3 _ _ l0_4 a0_5 a0_6 t211 t212 _ ?side1 ?side2 ?side3 ?side4 ?side5 ?side6 A17.out).mono ?_); (case side1 => repeat (first | exact (Kd.C_below HR0_2.out HB.out) | (with_reducible refine Kd.C_alloc ?_ _) | (with_reducible refine Kd.C_drewN ?_ _) | (with_reducible refine Kd.C_drew ?_))); (case side2 => exact HC0_2.out); (case side3 => repeat (first | exact (Kd.C_below HR0_3.out HB.out) | (with_reducible refine Kd.C_alloc ?_ _) | (with_reducible refine Kd.C_drewN ?_ _) | (with_reducible refine Kd.C_drew ?_))); (case side4 => exact HC0_3.out); (case side5 => repeat (first | exact (Kd.C_below HR0_4.out HB.out) | (with_reducible refine Kd.C_alloc ?_ _) | (with_reducible refine Kd.C_drewN ?_ _) | (with_reducible refine Kd.C_drew ?_))); (case side6 => exact HC0_4.out); rintro e w30 ⟨rfl, hb⟩; refine ⟨_, rfl, ?_⟩; have n0_ := Aside0.mk (blk_below (g := gb207) (o := .cells #[.int .i64 a0_0, .int .i64 a0_1, .slice A0_2 l0_2.length c0_2, .slice A0_3 l0_3.length c0_3, .slice A0_4 l0_4.length c0_4, .int .i64 a0_5, .int .i64 a0_6] 25 (0, 0)) (by (with_reducible repeat (first | refine blk_drewN ?_ _ | refine blk_drew ?_ | refine blk_alloc ?_ _)); exact BK207.out) hb); have n1_ := Aside0.mk (below_step (by repeat (first | (with_reducible first | exact HB.out | apply below_alloc | apply pw_below_drewN | apply below_drew1 | refine below_set ?_ GE207.out) | exact HB.out)) hb); clear BK207; clear HB; have BK207 := n0_; have HB := n1_; clear n0_ n1_; (try clear hb); (try clear hb2); (try clear hk); (try clear hi); have hcz31_0 : w30.cell? ⟨gb207, 0, none⟩ = some (.int .i64 a0_0) := (blk_cell BK207.out 0).trans rfl; have hcz31_1 : w30.cell? ⟨gb207, 1, none⟩ = some (.int .i64 a0_1) := (blk_cell BK207.out 1).trans rfl; have hcz31_2 : w30.cell? ⟨gb207, 2, none⟩ = some (.slice A0_2 l0_2.length c0_2) := (blk_cell BK207.out 2).trans rfl; have hcz31_3 : w30.cell? ⟨gb207, 3, none⟩ = some (.slice A0_3 l0_3.length c0_3) := (blk_cell BK207.out 3).trans rfl; have hcz31_4 : w30.cell? ⟨gb207, 4, none⟩ = some (.slice A0_4 l0_4.length c0_4) := (blk_cell BK207.out 4).trans rfl; have hcz31_5 : w30.cell? ⟨gb207, 5, none⟩ = some (.int .i64 a0_5) := (blk_cell BK207.out 5).trans rfl; have hcz31_6 : w30.cell? ⟨gb207, 6, none⟩ = some (.int .i64 a0_6) := (blk_cell BK207.out 6).trans rfl; have hfz31_0 := blk_frozen BK207.out 0; have hfz31_1 := blk_frozen BK207.out 1; have hfz31_2 := blk_frozen BK207.out 2; have hfz31_3 := blk_frozen BK207.out 3; have hfz31_4 := blk_frozen BK207.out 4; have hfz31_5 := blk_frozen BK207.out 5; have hfz31_6 := blk_frozen BK207.out 6) | ((with_reducible refine gate_callee (f := 8) rfl ?_); refine goesL_ (some 49) rfl rfl Tryz.func8 (by kernel_rfl) rfl #[.agg #[.int .i64 a0_0, .int .i64 a0_1, .slice A0_2 l0_2.length c0_2, .slice A0_3 l0_3.length c0_3, .slice A0_4 l0_4.length c0_4, .int .i64 a0_5, .int .i64 a0_6], .slice A1 l1.length c1] rfl (by (try simp only [List.map_toArray, List.map_cons, List.map_nil]); first | done | rfl | (simp only [List.length_drop, List.length_take]; rfl)) ?_; (with_reducible refine (reach_Finals.calls kj4 a0_0 a0_1 _ _ l0_2 _ _ l0_3 _ _ l0_4 a0_5 a0_6 _ _ l1 t213 t216 _ ?side1 ?side2 ?side3 ?side4 ?side5 ?side6 ?side7 ?side8 A18.out).mono ?_); (case side1 => repeat (first | exact (Kd.C_below HR0_2.out HB.out) | (with_reducible refine Kd.C_alloc ?_ _) | (with_reducible refine Kd.C_drewN ?_ _) | (with_reducible refine Kd.C_drew ?_))); (case side2 => exact HC0_2.out); (case side3 => repeat (first | exact (Kd.C_below HR0_3.out HB.out) | (with_reducible refine Kd.C_alloc ?_ _) | (with_reducible refine Kd.C_drewN ?_ _) | (with_reducible refine Kd.C_drew ?_))); (case side4 => exact HC0_3.out); (case side5 => repeat (first | exact (Kd.C_below HR0_4.out HB.out) | (with_reducible refine Kd.C_alloc ?_ _) | (with_reducible refine Kd.C_drewN ?_ _) | (with_reducible refine Kd.C_drew ?_))); (case side6 => exact HC0_4.out); (case side7 => repeat (first | exact (Kd.C_below HR1.out HB.out) | (with_reducible refine Kd.C_alloc ?_ _) | (with_reducible refine Kd.C_drewN ?_ _) | (with_reducible refine Kd.C_drew ?_))); (case side8 => exact HC1.out); rintro e w32 ⟨v214, rfl, ho0, hb⟩; refine ⟨_, rfl, ?_⟩; have n0_ := Aside0.mk (Kd.R_lower ho0 (below_size (by repeat (first | (with_reducible first | exact HB.out | apply below_alloc | apply pw_below_drewN | apply below_drew1 | refine below_set ?_ GE207.out) | exact HB.out)))); have n1_ := Aside0.mk (blk_below (g := gb207) (o := .cells #[.int .i64 a0_0, .int .i64 a0_1, .slice A0_2 l0_2.length c0_2, .slice A0_3 l0_3.length c0_3, .slice A0_4 l0_4.length c0_4, .int .i64 a0_5, .int .i64 a0_6] 25 (0, 0)) (by (with_reducible repeat (first | refine blk_drewN ?_ _ | refine blk_drew ?_ | refine blk_alloc ?_ _)); exact BK207.out) hb); have n2_ := Aside0.mk (below_step (by repeat (first | (with_reducible first | exact HB.out | apply below_alloc | apply pw_below_drewN | apply below_drew1 | refine below_set ?_ GE207.out) | exact HB.out)) hb); clear BK207; clear HB; have HO215 := n0_; have BK207 := n1_; have HB := n2_; clear n0_ n1_ n2_; (try clear hb); (try clear hb2); (try clear hk); (try clear hi); (try clear ho0); have hcz33_0 : w32.cell? ⟨gb207, 0, none⟩ = some (.int .i64 a0_0) := (blk_cell BK207.out 0).trans rfl; have hcz33_1 : w32.cell? ⟨gb207, 1, none⟩ = some (.int .i64 a0_1) := (blk_cell BK207.out 1).trans rfl; have hcz33_2 : w32.cell? ⟨gb207, 2, none⟩ = some (.slice A0_2 l0_2.length c0_2) := (blk_cell BK207.out 2).trans rfl; have hcz33_3 : w32.cell? ⟨gb207, 3, none⟩ = some (.slice A0_3 l0_3.length c0_3) := (blk_cell BK207.out 3).trans rfl; have hcz33_4 : w32.cell? ⟨gb207, 4, none⟩ = some (.slice A0_4 l0_4.length c0_4) := (blk_cell BK207.out 4).trans rfl; have hcz33_5 : w32.cell? ⟨gb207, 5, none⟩ = some (.int .i64 a0_5) := (blk_cell BK207.out 5).trans rfl; have hcz33_6 : w32.cell? ⟨gb207, 6, none⟩ = some (.int .i64 a0_6) := (blk_cell BK207.out 6).trans rfl; have hfz33_0 := blk_frozen BK207.out 0; have hfz33_1 := blk_frozen BK207.out 1; have hfz33_2 := blk_frozen BK207.out 2; have hfz33_3 := blk_frozen BK207.out 3; have hfz33_4 := blk_frozen BK207.out 4; have hfz33_5 := blk_frozen BK207.out 5; have hfz33_6 := blk_frozen BK207.out 6) | ((with_reducible refine gate_callee (f := 9) rfl ?_); refine goesL_ (some 55) rfl rfl Tryz.func9 (by kernel_rfl) rfl #[.agg #[.int .i64 a0_0, .int .i64 a0_1, .slice A0_2 l0_2.length c0_2, .slice A0_3 l0_3.length c0_3, .slice A0_4 l0_4.length c0_4, .int .i64 a0_5, .int .i64 a0_6], .slice A1 l1.length c1] rfl (by (try simp only [List.map_toArray, List.map_cons, List.map_nil]); first | done | rfl | (simp only [List.length_drop, List.length_take]; rfl)) ?_; (with_reducible refine (assizeref28_Finals.calls kj4 a0_0 a0_1 _ _ l0_2 _ _ l0_3 _ _ l0_4 a0_5 a0_6 _ _ l1 t217 t220 _ ?side1 ?side2 ?side3 ?side4 ?side5 ?side6 ?side7 ?side8 A19.out).mono ?_); (case side1 => repeat (first | exact (Kd.C_below HR0_2.out HB.out) | (with_reducible refine Kd.C_alloc ?_ _) | (with_reducible refine Kd.C_drewN ?_ _) | (with_reducible refine Kd.C_drew ?_))); (case side2 => exact HC0_2.out); (case side3 => repeat (first | exact (Kd.C_below HR0_3.out HB.out) | (with_reducible refine Kd.C_alloc ?_ _) | (with_reducible refine Kd.C_drewN ?_ _) | (with_reducible refine Kd.C_drew ?_))); (case side4 => exact HC0_3.out); (case side5 => repeat (first | exact (Kd.C_below HR0_4.out HB.out) | (with_reducible refine Kd.C_alloc ?_ _) | (with_reducible refine Kd.C_drewN ?_ _) | (with_reducible refine Kd.C_drew ?_))); (case side6 => exact HC0_4.out); (case side7 => repeat (first | exact (Kd.C_below HR1.out HB.out) | (with_reducible refine Kd.C_alloc ?_ _) | (with_reducible refine Kd.C_drewN ?_ _) | (with_reducible refine Kd.C_drew ?_))); (case side8 => exact HC1.out); rintro e w34 ⟨v218, rfl, ho0, hb⟩; refine ⟨_, rfl, ?_⟩; have n0_ := Aside0.mk (Kd.R_elder' (by (with_reducible repeat (first | apply Kd.R_alloc | apply Kd.R_drewN | apply Kd.R_drew)); exact HO215.out) (Kd.R_base ho0) hb); have n1_ := Aside0.mk (Kd.R_lower (Kd.R_new' ho0 (Kd.R_lt (by (with_reducible repeat (first | apply Kd.R_alloc | apply Kd.R_drewN | apply Kd.R_drew)); exact HO215.out))) (below_size (by repeat (first | (with_reducible first | exact HB.out | apply below_alloc | apply pw_below_drewN | apply below_drew1 | refine below_set ?_ GE207.out) | exact HB.out)))); have n2_ := Aside0.mk (blk_below (g := gb207) (o := .cells #[.int .i64 a0_0, .int .i64 a0_1, .slice A0_2 l0_2.length c0_2, .slice A0_3 l0_3.length c0_3, .slice A0_4 l0_4.length c0_4, .int .i64 a0_5, .int .i64 a0_6] 25 (0, 0)) (by (with_reducible repeat (first | refine blk_drewN ?_ _ | refine blk_drew ?_ | refine blk_alloc ?_ _)); exact BK207.out) hb); have n3_ := Aside0.mk (below_step (by repeat (first | (with_reducible first | exact HB.out | apply below_alloc | apply pw_below_drewN | apply below_drew1 | refine below_set ?_ GE207.out) | exact HB.out)) hb); clear HO215; clear BK207; clear HB; have HO215 := n0_; have HO219 := n1_; have BK207 := n2_; have HB := n3_; clear n0_ n1_ n2_ n3_; (try clear hb); (try clear hb2); (try clear hk); (try clear hi); (try clear ho0)))
                  have n0_ := Aside0.mk (Kd.R_drew HO215.out)
                  have n1_ := Aside0.mk (Kd.R_drew HO219.out)
                  have n2_ := Aside0.mk (blk_drew BK207.out)
                  have n3_ := Aside0.mk (below_drew1 HB.out)
                  clear HO215
                  clear HO219
                  clear BK207
                  clear HB
                  have HO215 := n0_
                  have HO219 := n1_
                  have BK207 := n2_
                  have HB := n3_
                  clear n0_ n1_ n2_ n3_
                  refine start_ (n := 26) (S := fun w' => w'.cell? ⟨gb207, 0, none⟩ = some (.int .i64 a0_0) ∧ w'.cell? ⟨gb207, 1, none⟩ = some (.int .i64 a0_1) ∧ w'.cell? ⟨gb207, 2, none⟩ = some (.slice A0_2 l0_2.length c0_2) ∧ w'.cell? ⟨gb207, 3, none⟩ = some (.slice A0_3 l0_3.length c0_3) ∧ w'.cell? ⟨gb207, 4, none⟩ = some (.slice A0_4 l0_4.length c0_4) ∧ w'.cell? ⟨gb207, 5, none⟩ = some (.int .i64 a0_5) ∧ w'.cell? ⟨gb207, 6, none⟩ = some (.int .i64 a0_6)) (ds := []) #[false, false, false, false, false, false, false, false, false, false, false, false, false, false, false, false, false, false, false, false, false, false, false, false, false, false] (by kernel_rfl) rfl rfl ⟨(blk_cell BK207.out 0).trans rfl, (blk_cell BK207.out 1).trans rfl, (blk_cell BK207.out 2).trans rfl, (blk_cell BK207.out 3).trans rfl, (blk_cell BK207.out 4).trans rfl, (blk_cell BK207.out 5).trans rfl, (blk_cell BK207.out 6).trans rfl⟩ (fun hHeld => ?_); refine with_tabW assizelaw28_ReachCheckSpec.tab9 assizelaw28_ReachCheckSpec.bits9 (fun HT_ HW_ => ?_)
                  generalize w34.drew = w35 at HO215 HO219 BK207 HB hHeld ⊢
                  refine take_ (i := 0) (N := some 58) (v := ?_) (a' := ?_) #[true, false, false, false, false, false, false, false, false, false, false, false, false, false, false, false, false, false, false, false, false, false, false, false, false, false] rfl rfl (take_ofW HT_.out HW_.out (by kernel_rfl)) (fun _ _ _ h => h) (Or.inl ⟨by rfl, ?_⟩) hHeld ?_ ?_
                  rotate_left
                  · rintro w' ⟨s0, s1, s2, s3, s4, s5, s6⟩
                    go_simp
                    with_reducible rfl
                  rotate_left
                  · simp only [Act.put, List.setIfInBounds_toArray, List.set_cons_zero, List.set_cons_succ, i64_w, i32_w]
                    rfl
                  refine take_ (i := 2) (N := some 60) (v := ?_) (a' := ?_) #[true, false, true, false, false, false, false, false, false, false, false, false, false, false, false, false, false, false, false, false, false, false, false, false, false, false] rfl rfl (take_ofW HT_.out HW_.out (by kernel_rfl)) (fun _ _ _ h => h) (Or.inl ⟨by rfl, ?_⟩) hHeld ?_ ?_
                  rotate_left
                  · rintro w' ⟨s0, s1, s2, s3, s4, s5, s6⟩
                    go_simp
                    with_reducible rfl
                  rotate_left
                  · simp only [Act.put, List.setIfInBounds_toArray, List.set_cons_zero, List.set_cons_succ, i64_w, i32_w]
                    rfl
                  refine one_ (i := 1) (N := some 59) #[true, true, true, false, false, false, false, false, false, false, false, false, false, false, false, false, false, false, false, false, false, false, false, false, false, false] rfl rfl (one_of HT_.out (by kernel_rfl)) (by decide) (fun K hK => ?_)
                  refine goes_ Tryz.func10 (by kernel_rfl) rfl #[.agg #[.int .i64 a0_0, .int .i64 a0_1, .slice A0_2 l0_2.length c0_2, .slice A0_3 l0_3.length c0_3, .slice A0_4 l0_4.length c0_4, .int .i64 a0_5, .int .i64 a0_6]] (by rfl) rfl rfl (by (try simp only [List.map_toArray, List.map_cons, List.map_nil]); first | done | rfl | (simp only [List.length_drop, List.length_take]; rfl)) ?_
                  with_reducible refine (reach_Check.calls kj4 a0_0 a0_1 _ _ l0_2 _ _ l0_3 _ _ l0_4 a0_5 a0_6 t221 _ ?side1 ?side2 ?side3 ?side4 ?side5 ?side6 A20.out).mono ?_
                  (case side1 => repeat (first | exact (Kd.C_below HR0_2.out HB.out) | (with_reducible refine Kd.C_alloc ?_ _) | (with_reducible refine Kd.C_drewN ?_ _) | (with_reducible refine Kd.C_drew ?_)))
                  (case side2 => exact HC0_2.out)
                  (case side3 => repeat (first | exact (Kd.C_below HR0_3.out HB.out) | (with_reducible refine Kd.C_alloc ?_ _) | (with_reducible refine Kd.C_drewN ?_ _) | (with_reducible refine Kd.C_drew ?_)))
                  (case side4 => exact HC0_3.out)
                  (case side5 => repeat (first | exact (Kd.C_below HR0_4.out HB.out) | (with_reducible refine Kd.C_alloc ?_ _) | (with_reducible refine Kd.C_drewN ?_ _) | (with_reducible refine Kd.C_drew ?_)))
                  (case side6 => exact HC0_4.out)
                  rintro e w36 ⟨rfl, hb⟩
                  refine ⟨_, rfl, ?_⟩
                  have n0_ := Aside0.mk (Kd.R_below (by (with_reducible repeat (first | apply Kd.R_alloc | apply Kd.R_drewN | apply Kd.R_drew)); exact HO215.out) hb)
                  have n1_ := Aside0.mk (Kd.R_below (by (with_reducible repeat (first | apply Kd.R_alloc | apply Kd.R_drewN | apply Kd.R_drew)); exact HO219.out) hb)
                  have n2_ := Aside0.mk (blk_below (g := gb207) (o := .cells #[.int .i64 a0_0, .int .i64 a0_1, .slice A0_2 l0_2.length c0_2, .slice A0_3 l0_3.length c0_3, .slice A0_4 l0_4.length c0_4, .int .i64 a0_5, .int .i64 a0_6] 25 (0, 0)) (by (with_reducible repeat (first | refine blk_drewN ?_ _ | refine blk_drew ?_ | refine blk_alloc ?_ _)); exact BK207.out) hb)
                  have n3_ := Aside0.mk (below_step (by repeat (first | (with_reducible first | exact HB.out | apply below_alloc | apply pw_below_drewN | apply below_drew1 | refine below_set ?_ GE207.out) | exact HB.out)) hb)
                  clear HO215
                  clear HO219
                  clear BK207
                  clear HB
                  have HO215 := n0_
                  have HO219 := n1_
                  have BK207 := n2_
                  have HB := n3_
                  clear n0_ n1_ n2_ n3_
                  (try clear hb)
                  (try clear hb2)
                  (try clear hk)
                  (try clear hi)
                  refine hK.out _ _ ⟨(blk_cell BK207.out 0).trans rfl, (blk_cell BK207.out 1).trans rfl, (blk_cell BK207.out 2).trans rfl, (blk_cell BK207.out 3).trans rfl, (blk_cell BK207.out 4).trans rfl, (blk_cell BK207.out 5).trans rfl, (blk_cell BK207.out 6).trans rfl⟩ (fun hHeld => ?_)
                  clear hK K
                  refine norm_ (a' := ?_) ?_ ?_
                  rotate_left
                  · show Act.put _ (some 59) _ = _
                    simp only [Act.put, List.setIfInBounds_toArray, List.set_cons_zero, List.set_cons_succ, i64_w, i32_w]
                    rfl
                  refine one_ (i := 3) (N := some 61) #[true, true, true, true, false, false, false, false, false, false, false, false, false, false, false, false, false, false, false, false, false, false, false, false, false, false] rfl rfl (one_of HT_.out (by kernel_rfl)) (by decide) (fun K hK => ?_)
                  refine goes_ Tryz.func11 (by kernel_rfl) rfl #[.agg #[.int .i64 a0_0, .int .i64 a0_1, .slice A0_2 l0_2.length c0_2, .slice A0_3 l0_3.length c0_3, .slice A0_4 l0_4.length c0_4, .int .i64 a0_5, .int .i64 a0_6]] (by rfl) rfl rfl (by (try simp only [List.map_toArray, List.map_cons, List.map_nil]); first | done | rfl | (simp only [List.length_drop, List.length_take]; rfl)) ?_
                  with_reducible refine (assizeref28_Check.calls kj4 a0_0 a0_1 _ _ l0_2 _ _ l0_3 _ _ l0_4 a0_5 a0_6 t222 _ ?side1 ?side2 ?side3 ?side4 ?side5 ?side6 A21.out).mono ?_
                  (case side1 => repeat (first | exact (Kd.C_below HR0_2.out HB.out) | (with_reducible refine Kd.C_alloc ?_ _) | (with_reducible refine Kd.C_drewN ?_ _) | (with_reducible refine Kd.C_drew ?_)))
                  (case side2 => exact HC0_2.out)
                  (case side3 => repeat (first | exact (Kd.C_below HR0_3.out HB.out) | (with_reducible refine Kd.C_alloc ?_ _) | (with_reducible refine Kd.C_drewN ?_ _) | (with_reducible refine Kd.C_drew ?_)))
                  (case side4 => exact HC0_3.out)
                  (case side5 => repeat (first | exact (Kd.C_below HR0_4.out HB.out) | (with_reducible refine Kd.C_alloc ?_ _) | (with_reducible refine Kd.C_drewN ?_ _) | (with_reducible refine Kd.C_drew ?_)))
                  (case side6 => exact HC0_4.out)
                  rintro e w37 ⟨rfl, hb⟩
                  refine ⟨_, rfl, ?_⟩
                  have n0_ := Aside0.mk (Kd.R_below (by (with_reducible repeat (first | apply Kd.R_alloc | apply Kd.R_drewN | apply Kd.R_drew)); exact HO215.out) hb)
                  have n1_ := Aside0.mk (Kd.R_below (by (with_reducible repeat (first | apply Kd.R_alloc | apply Kd.R_drewN | apply Kd.R_drew)); exact HO219.out) hb)
                  have n2_ := Aside0.mk (blk_below (g := gb207) (o := .cells #[.int .i64 a0_0, .int .i64 a0_1, .slice A0_2 l0_2.length c0_2, .slice A0_3 l0_3.length c0_3, .slice A0_4 l0_4.length c0_4, .int .i64 a0_5, .int .i64 a0_6] 25 (0, 0)) (by (with_reducible repeat (first | refine blk_drewN ?_ _ | refine blk_drew ?_ | refine blk_alloc ?_ _)); exact BK207.out) hb)
                  have n3_ := Aside0.mk (below_step (by repeat (first | (with_reducible first | exact HB.out | apply below_alloc | apply pw_below_drewN | apply below_drew1 | refine below_set ?_ GE207.out) | exact HB.out)) hb)
                  clear HO215
                  clear HO219
                  clear BK207
                  clear HB
                  have HO215 := n0_
                  have HO219 := n1_
                  have BK207 := n2_
                  have HB := n3_
                  clear n0_ n1_ n2_ n3_
                  (try clear hb)
                  (try clear hb2)
                  (try clear hk)
                  (try clear hi)
                  obtain ⟨Ao38, co38, eo38⟩ := Kd.R_slice HO215.out
                  (first | subst eo38 | (injection eo38 with f1_ f2_ f3_; have f4_ := f1_.symm; have f5_ := f3_.symm; clear f1_ f2_ f3_; subst f4_; subst f5_))
                  obtain ⟨Ao39, co39, eo39⟩ := Kd.R_slice HO219.out
                  (first | subst eo39 | (injection eo39 with f1_ f2_ f3_; have f4_ := f1_.symm; have f5_ := f3_.symm; clear f1_ f2_ f3_; subst f4_; subst f5_))
                  refine hK.out _ _ ⟨(blk_cell BK207.out 0).trans rfl, (blk_cell BK207.out 1).trans rfl, (blk_cell BK207.out 2).trans rfl, (blk_cell BK207.out 3).trans rfl, (blk_cell BK207.out 4).trans rfl, (blk_cell BK207.out 5).trans rfl, (blk_cell BK207.out 6).trans rfl⟩ (fun hHeld => ?_)
                  clear hK K
                  refine norm_ (a' := ?_) ?_ ?_
                  rotate_left
                  · show Act.put _ (some 61) _ = _
                    simp only [Act.put, List.setIfInBounds_toArray, List.set_cons_zero, List.set_cons_succ, i64_w, i32_w]
                    rfl
                  refine pure_ (i := 4) (N := some 62) (v := ?_) (a' := ?_) #[true, true, true, true, true, false, false, false, false, false, false, false, false, false, false, false, false, false, false, false, false, false, false, false, false, false] rfl rfl (any_of HT_.out (by kernel_rfl)) (fun _ _ _ h => h) (Or.inl ⟨by rfl, ?_⟩) ?_ ?_
                  rotate_left
                  · intro w'
                    go_simp
                    with_reducible rfl
                  rotate_left
                  · simp only [Act.put, List.setIfInBounds_toArray, List.set_cons_zero, List.set_cons_succ, i64_w, i32_w]
                    rfl
                  refine pure_ (i := 5) (N := some 63) (v := ?_) (a' := ?_) #[true, true, true, true, true, true, false, false, false, false, false, false, false, false, false, false, false, false, false, false, false, false, false, false, false, false] rfl rfl (any_of HT_.out (by kernel_rfl)) (fun _ _ _ h => h) (Or.inl ⟨by rfl, ?_⟩) ?_ ?_
                  rotate_left
                  · intro w'
                    go_simp
                    with_reducible rfl
                  rotate_left
                  · simp only [Act.put, List.setIfInBounds_toArray, List.set_cons_zero, List.set_cons_succ, i64_w, i32_w]
                    rfl
                  refine pure_ (i := 6) (N := some 64) (v := ?_) (a' := ?_) #[true, true, true, true, true, true, true, false, false, false, false, false, false, false, false, false, false, false, false, false, false, false, false, false, false, false] rfl rfl (any_of HT_.out (by kernel_rfl)) (fun _ _ _ h => h) (Or.inl ⟨by rfl, ?_⟩) ?_ ?_
                  rotate_left
                  · intro w'
                    go_simp
                    with_reducible rfl
                  rotate_left
                  · simp only [Act.put, List.setIfInBounds_toArray, List.set_cons_zero, List.set_cons_succ, i64_w, i32_w]
                    rfl
                  refine pure_ (i := 7) (N := some 65) (v := ?_) (a' := ?_) #[true, true, true, true, true, true, true, true, false, false, false, false, false, false, false, false, false, false, false, false, false, false, false, false, false, false] rfl rfl (any_of HT_.out (by kernel_rfl)) (fun _ _ _ h => h) (Or.inl ⟨by rfl, ?_⟩) ?_ ?_
                  rotate_left
                  · intro w'
                    go_simp
                    with_reducible rfl
                  rotate_left
                  · simp only [Act.put, List.setIfInBounds_toArray, List.set_cons_zero, List.set_cons_succ, i64_w, i32_w]
                    rfl
                  refine pure_ (i := 8) (N := some 66) (v := ?_) (a' := ?_) #[true, true, true, true, true, true, true, true, true, false, false, false, false, false, false, false, false, false, false, false, false, false, false, false, false, false] rfl rfl (any_of HT_.out (by kernel_rfl)) (fun _ _ _ h => h) (Or.inl ⟨by rfl, ?_⟩) ?_ ?_
                  rotate_left
                  · intro w'
                    go_simp
                    with_reducible rfl
                  rotate_left
                  · simp only [Act.put, List.setIfInBounds_toArray, List.set_cons_zero, List.set_cons_succ, i64_w, i32_w]
                    rfl
                  refine pure_ (i := 9) (N := some 67) (v := ?_) (a' := ?_) #[true, true, true, true, true, true, true, true, true, true, false, false, false, false, false, false, false, false, false, false, false, false, false, false, false, false] rfl rfl (any_of HT_.out (by kernel_rfl)) (fun _ _ _ h => h) (Or.inl ⟨by rfl, ?_⟩) ?_ ?_
                  rotate_left
                  · intro w'
                    go_simp
                    with_reducible rfl
                  rotate_left
                  · simp only [Act.put, List.setIfInBounds_toArray, List.set_cons_zero, List.set_cons_succ, i64_w, i32_w]
                    rfl
                  refine pure_ (i := 10) (N := some 68) (v := ?_) (a' := ?_) #[true, true, true, true, true, true, true, true, true, true, true, false, false, false, false, false, false, false, false, false, false, false, false, false, false, false] rfl rfl (any_of HT_.out (by kernel_rfl)) (fun _ _ _ h => h) (Or.inl ⟨by rfl, ?_⟩) ?_ ?_
                  rotate_left
                  · intro w'
                    go_simp
                    with_reducible rfl
                  rotate_left
                  · simp only [Act.put, List.setIfInBounds_toArray, List.set_cons_zero, List.set_cons_succ, i64_w, i32_w]
                    rfl
                  refine pure_ (i := 11) (N := some 69) (v := ?_) (a' := ?_) #[true, true, true, true, true, true, true, true, true, true, true, true, false, false, false, false, false, false, false, false, false, false, false, false, false, false] rfl rfl (any_of HT_.out (by kernel_rfl)) (fun _ _ _ h => h) (Or.inl ⟨by rfl, ?_⟩) ?_ ?_
                  rotate_left
                  · intro w'
                    go_simp
                    with_reducible rfl
                  rotate_left
                  · simp only [Act.put, List.setIfInBounds_toArray, List.set_cons_zero, List.set_cons_succ, i64_w, i32_w]
                    rfl
                  refine pure_ (i := 12) (N := some 70) (v := ?_) (a' := ?_) #[true, true, true, true, true, true, true, true, true, true, true, true, true, false, false, false, false, false, false, false, false, false, false, false, false, false] rfl rfl (any_of HT_.out (by kernel_rfl)) (fun _ _ _ h => h) (Or.inl ⟨by rfl, ?_⟩) ?_ ?_
                  rotate_left
                  · intro w'
                    go_simp
                    with_reducible rfl
                  rotate_left
                  · simp only [Act.put, List.setIfInBounds_toArray, List.set_cons_zero, List.set_cons_succ, i64_w, i32_w]
                    rfl
                  refine pure_ (i := 13) (N := some 71) (v := ?_) (a' := ?_) #[true, true, true, true, true, true, true, true, true, true, true, true, true, true, false, false, false, false, false, false, false, false, false, false, false, false] rfl rfl (any_of HT_.out (by kernel_rfl)) (fun _ _ _ h => h) (Or.inl ⟨by rfl, ?_⟩) ?_ ?_
                  rotate_left
                  · intro w'
                    go_simp
                    with_reducible rfl
                  rotate_left
                  · simp only [Act.put, List.setIfInBounds_toArray, List.set_cons_zero, List.set_cons_succ, i64_w, i32_w]
                    rfl
                  refine pure_ (i := 14) (N := some 72) (v := ?_) (a' := ?_) #[true, true, true, true, true, true, true, true, true, true, true, true, true, true, true, false, false, false, false, false, false, false, false, false, false, false] rfl rfl (any_of HT_.out (by kernel_rfl)) (fun _ _ _ h => h) (Or.inl ⟨by rfl, ?_⟩) ?_ ?_
                  rotate_left
                  · intro w'
                    go_simp
                    with_reducible rfl
                  rotate_left
                  · simp only [Act.put, List.setIfInBounds_toArray, List.set_cons_zero, List.set_cons_succ, i64_w, i32_w]
                    rfl
                  refine pure_ (i := 15) (N := some 73) (v := ?_) (a' := ?_) #[true, true, true, true, true, true, true, true, true, true, true, true, true, true, true, true, false, false, false, false, false, false, false, false, false, false] rfl rfl (any_of HT_.out (by kernel_rfl)) (fun _ _ _ h => h) (Or.inl ⟨by rfl, ?_⟩) ?_ ?_
                  rotate_left
                  · intro w'
                    go_simp
                    with_reducible rfl
                  rotate_left
                  · simp only [Act.put, List.setIfInBounds_toArray, List.set_cons_zero, List.set_cons_succ, i64_w, i32_w]
                    rfl
                  refine pure_ (i := 16) (N := some 74) (v := ?_) (a' := ?_) #[true, true, true, true, true, true, true, true, true, true, true, true, true, true, true, true, true, false, false, false, false, false, false, false, false, false] rfl rfl (any_of HT_.out (by kernel_rfl)) (fun _ _ _ h => h) (Or.inl ⟨by rfl, ?_⟩) ?_ ?_
                  rotate_left
                  · intro w'
                    go_simp
                    with_reducible rfl
                  rotate_left
                  · simp only [Act.put, List.setIfInBounds_toArray, List.set_cons_zero, List.set_cons_succ, i64_w, i32_w]
                    rfl
                  refine pure_ (i := 17) (N := some 75) (v := ?_) (a' := ?_) #[true, true, true, true, true, true, true, true, true, true, true, true, true, true, true, true, true, true, false, false, false, false, false, false, false, false] rfl rfl (any_of HT_.out (by kernel_rfl)) (fun _ _ _ h => h) (Or.inl ⟨by rfl, ?_⟩) ?_ ?_
                  rotate_left
                  · intro w'
                    go_simp
                    with_reducible rfl
                  rotate_left
                  · simp only [Act.put, List.setIfInBounds_toArray, List.set_cons_zero, List.set_cons_succ, i64_w, i32_w]
                    rfl
                  refine one_ (i := 18) (N := some 76) #[true, true, true, true, true, true, true, true, true, true, true, true, true, true, true, true, true, true, true, false, false, false, false, false, false, false] rfl rfl (one_of HT_.out (by kernel_rfl)) (by decide) (fun K hK => ?_)
                  refine goes_ Tryz.func12 (by kernel_rfl) rfl #[.slice Ao38 t213.length co38, .slice Ao39 t217.length co39] (by rfl) rfl rfl (by (try simp only [List.map_toArray, List.map_cons, List.map_nil]); first | done | rfl | (simp only [List.length_drop, List.length_take]; rfl)) ?_
                  with_reducible refine (assizeref28_SameList.calls kj4 _ _ t213 _ _ t217 true _ ?side1 ?side2 ?side3 ?side4 A25.out).mono ?_
                  (case side1 => repeat (first | exact (Kd.R_reads' HO215.out).2.2 | (with_reducible refine Kd.C_alloc ?_ _) | (with_reducible refine Kd.C_drewN ?_ _) | (with_reducible refine Kd.C_drew ?_)))
                  (case side2 => exact (Kd.R_reads' HO215.out).2.1)
                  (case side3 => repeat (first | exact (Kd.R_reads' HO219.out).2.2 | (with_reducible refine Kd.C_alloc ?_ _) | (with_reducible refine Kd.C_drewN ?_ _) | (with_reducible refine Kd.C_drew ?_)))
                  (case side4 => exact (Kd.R_reads' HO219.out).2.1)
                  rintro e w' ⟨rfl, ⟨nd, rfl⟩⟩
                  refine ⟨_, rfl, ?_⟩
                  refine hK.out _ _ ⟨(blk_cell BK207.out 0).trans rfl, (blk_cell BK207.out 1).trans rfl, (blk_cell BK207.out 2).trans rfl, (blk_cell BK207.out 3).trans rfl, (blk_cell BK207.out 4).trans rfl, (blk_cell BK207.out 5).trans rfl, (blk_cell BK207.out 6).trans rfl⟩ (fun hHeld => ?_)
                  clear hK K
                  refine norm_ (a' := ?_) ?_ ?_
                  rotate_left
                  · show Act.put _ (some 76) _ = _
                    simp only [Act.put, List.setIfInBounds_toArray, List.set_cons_zero, List.set_cons_succ, i64_w, i32_w]
                    rfl
                  refine pure_ (i := 19) (N := some 77) (v := ?_) (a' := ?_) #[true, true, true, true, true, true, true, true, true, true, true, true, true, true, true, true, true, true, true, true, false, false, false, false, false, false] rfl rfl (any_of HT_.out (by kernel_rfl)) (fun _ _ _ h => h) (Or.inl ⟨by rfl, ?_⟩) ?_ ?_
                  rotate_left
                  · intro w'
                    go_simp
                    with_reducible rfl
                  rotate_left
                  · simp only [Act.put, List.setIfInBounds_toArray, List.set_cons_zero, List.set_cons_succ, i64_w, i32_w]
                    rfl
                  refine pure_ (i := 20) (N := some 78) (v := ?_) (a' := ?_) #[true, true, true, true, true, true, true, true, true, true, true, true, true, true, true, true, true, true, true, true, true, false, false, false, false, false] rfl rfl (any_of HT_.out (by kernel_rfl)) (fun _ _ _ h => h) (Or.inl ⟨by rfl, ?_⟩) ?_ ?_
                  rotate_left
                  · intro w'
                    go_simp
                    with_reducible rfl
                  rotate_left
                  · simp only [Act.put, List.setIfInBounds_toArray, List.set_cons_zero, List.set_cons_succ, i64_w, i32_w]
                    rfl
                  refine pure_ (i := 21) (N := some 79) (v := ?_) (a' := ?_) #[true, true, true, true, true, true, true, true, true, true, true, true, true, true, true, true, true, true, true, true, true, true, false, false, false, false] rfl rfl (any_of HT_.out (by kernel_rfl)) (fun _ _ _ h => h) (Or.inl ⟨by rfl, ?_⟩) ?_ ?_
                  rotate_left
                  · intro w'
                    go_simp
                    with_reducible rfl
                  rotate_left
                  · simp only [Act.put, List.setIfInBounds_toArray, List.set_cons_zero, List.set_cons_succ, i64_w, i32_w]
                    rfl
                  refine pure_ (i := 22) (N := some 80) (v := ?_) (a' := ?_) #[true, true, true, true, true, true, true, true, true, true, true, true, true, true, true, true, true, true, true, true, true, true, true, false, false, false] rfl rfl (any_of HT_.out (by kernel_rfl)) (fun _ _ _ h => h) (Or.inl ⟨by rfl, ?_⟩) ?_ ?_
                  rotate_left
                  · intro w'
                    go_simp
                    with_reducible rfl
                  rotate_left
                  · simp only [Act.put, List.setIfInBounds_toArray, List.set_cons_zero, List.set_cons_succ, i64_w, i32_w]
                    rfl
                  refine pure_ (i := 23) (N := some 81) (v := ?_) (a' := ?_) #[true, true, true, true, true, true, true, true, true, true, true, true, true, true, true, true, true, true, true, true, true, true, true, true, false, false] rfl rfl (any_of HT_.out (by kernel_rfl)) (fun _ _ _ h => h) (Or.inl ⟨by rfl, ?_⟩) ?_ ?_
                  rotate_left
                  · intro w'
                    go_simp
                    with_reducible rfl
                  rotate_left
                  · simp only [Act.put, List.setIfInBounds_toArray, List.set_cons_zero, List.set_cons_succ, i64_w, i32_w]
                    rfl
                  refine pure_ (i := 24) (N := some 82) (v := ?_) (a' := ?_) #[true, true, true, true, true, true, true, true, true, true, true, true, true, true, true, true, true, true, true, true, true, true, true, true, true, false] rfl rfl (any_of HT_.out (by kernel_rfl)) (fun _ _ _ h => h) (Or.inl ⟨by rfl, ?_⟩) ?_ ?_
                  rotate_left
                  · intro w'
                    go_simp
                    with_reducible rfl
                  rotate_left
                  · simp only [Act.put, List.setIfInBounds_toArray, List.set_cons_zero, List.set_cons_succ, i64_w, i32_w]
                    rfl
                  refine pure_ (i := 25) (N := some 4) (v := ?_) (a' := ?_) #[true, true, true, true, true, true, true, true, true, true, true, true, true, true, true, true, true, true, true, true, true, true, true, true, true, true] rfl rfl (any_of HT_.out (by kernel_rfl)) (fun _ _ _ h => h) (Or.inl ⟨by rfl, ?_⟩) ?_ ?_
                  rotate_left
                  · intro w'
                    go_simp
                    with_reducible rfl
                  rotate_left
                  · simp only [Act.put, List.setIfInBounds_toArray, List.set_cons_zero, List.set_cons_succ, i64_w, i32_w]
                    rfl
                  refine done_ (done_of HT_.out (by kernel_rfl)) ?_
                  try go_wp2
                  go_ret
                  exact ⟨by first | rfl | (simp [errW_none, errW_some] <;> rfl) | (simp [*, errW_none, errW_some] <;> rfl), by repeat (first | (with_reducible first | exact HB.out | apply below_alloc | apply pw_below_drewN | apply below_drew1 | refine below_set ?_ GE207.out) | exact HB.out)⟩
                · replace c26 := Bool.eq_false_iff.mpr c26
                  subst c26
                  have H1 : (some false) = some r := by rw [if_neg (show ¬ (false = true) by decide)] at H; exact H
                  clear H
                  have H := H1
                  clear H1
                  exact absurd (Option.some.inj H) (by rw [hr]; decide)
              · rw [if_neg c24] at H
                have c24b0 : (t210 == t212) = false := beq_eq_false_iff_ne.mpr c24
                have c24b1 : (t210 != t212) = true := bne_iff_ne.mpr c24
                exact absurd (Option.some.inj H) (by rw [hr]; decide)
            · rw [if_neg c23] at H
              have c23b0 : (t209 == t211) = false := by simpa using c23
              (try (have c23b1 : decide (t209 = t211) = false := by simpa using c23))
              (try (have c23b2 : (t209 == t211) = false := by simpa using c23))
              (try (have c23b3 : ¬ (t209 = t211) := by simpa using c23))
              clear c23
              exact absurd (Option.some.inj H) (by rw [hr]; decide)
          · rw [if_neg c22] at H
            have c22b0 : (t221 == t222) = false := beq_eq_false_iff_ne.mpr c22
            have c22b1 : (t221 != t222) = true := bne_iff_ne.mpr c22
            exact absurd (Option.some.inj H) (by rw [hr]; decide)
  · replace c4 := Bool.eq_false_iff.mpr c4
    subst c4
    have H1 : (some false) = some r := by rw [if_neg (show ¬ (false = true) by decide)] at H; exact H
    clear H
    have H := H1
    clear H1
    exact absurd (Option.some.inj H) (by rw [hr]; decide)
end Go.Proofs.YtfiflkjniodbeaaGreatDoor.PReachCheckSpec
