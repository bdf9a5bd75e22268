/- Printed by a program for this claim: the walks of functions that the law reaches. -/
import Derived.Test.YtfiflkjniodbeaaGreatDoorPReachCheckSpecx0
namespace Go.Proofs.YtfiflkjniodbeaaGreatDoor.PReachCheckSpec
open Go.RowKit Go.Proofs.YtfiflkjniodbeaaGreatDoorW.PrintWords Go.Proofs.YtfiflkjniodbeaaGreatDoorW.PrintLast Go.Proofs.YtfiflkjniodbeaaGreatDoorW.PrintMore
attribute [local go_sem] max2_int min2_int max_two min_two max_three min_three max_four min_four   -- for this text's walks alone
set_option linter.unusedVariables false
set_option linter.unusedSimpArgs false

/-! ### assizeref28_Check: function 11 -/
mutual
def assizeref28_Check.j0 : Nat → Int → Bool → Int → Int → List Int → List Int → List (S53) → Int → Int → Option (Int)
  | 0, _, _, _, _, _, _, _, _, _ => none
  | k + 1, x3, x45, x129000, x129001, x129002, x129003, x129004, x129005, x129006 => if x45 = true then (some 280) else (assizeref28_Check.l0 k x3 0 x129000 x129001 x129002 x129003 x129004 x129005 x129006)
def assizeref28_Check.l0 : Nat → Int → Int → Int → Int → List Int → List Int → List (S53) → Int → Int → Option (Int)
  | 0, _, _, _, _, _, _, _, _, _ => none
  | k + 1, x3, x4, x129000, x129001, x129002, x129003, x129004, x129005, x129006 => if x4 < x3 then (if 0 ≤ x4 then (if x4 < (x129002.length : Int) then (if (rd x129002 x4) < 0 then (some 280) else (if (rd x129002 x4) ≥ 192 then (some 280) else (if x4 > 0 then (if 0 ≤ (wrap64 (x4 - 1)) then (if (wrap64 (x4 - 1)) < (x129002.length : Int) then (if (rd x129002 (wrap64 (x4 - 1))) ≥ (rd x129002 x4) then (some 280) else (if x4 < (x129003.length : Int) then (if (rd x129003 x4) < (-99999) then (some 280) else (if (rd x129003 x4) > 99999 then (some 280) else (assizeref28_Check.l0 k x3 (wrap64 (x4 + 1)) x129000 x129001 x129002 x129003 x129004 x129005 x129006))) else (none))) else (none)) else (none)) else (if x4 < (x129003.length : Int) then (if (rd x129003 x4) < (-99999) then (some 280) else (if (rd x129003 x4) > 99999 then (some 280) else (assizeref28_Check.l0 k x3 (wrap64 (x4 + 1)) x129000 x129001 x129002 x129003 x129004 x129005 x129006))) else (none))))) else (none)) else (none)) else (assizeref28_Check.l1 k x3 0 x129000 x129001 x129002 x129003 x129004 x129005 x129006)
def assizeref28_Check.l1 : Nat → Int → Int → Int → Int → List Int → List Int → List (S53) → Int → Int → Option (Int)
  | 0, _, _, _, _, _, _, _, _, _ => none
  | k + 1, x3, x5, x129000, x129001, x129002, x129003, x129004, x129005, x129006 => if x5 < (x129004.length : Int) then (if 0 ≤ x5 then (if ((rd_T53 x129004 x5).f0) < 0 then (some 280) else (if ((rd_T53 x129004 x5).f0) ≥ x3 then (some 280) else (if ((rd_T53 x129004 x5).f1) < 0 then (some 280) else (if ((rd_T53 x129004 x5).f1) ≥ x3 then (some 280) else (if ((rd_T53 x129004 x5).f0) = ((rd_T53 x129004 x5).f1) then (some 280) else (assizeref28_Check.l1 k x3 (wrap64 (x5 + 1)) x129000 x129001 x129002 x129003 x129004 x129005 x129006)))))) else (none)) else (if x129005 < 0 then (some 280) else (if x129005 ≥ x3 then (some 280) else (if x129006 < 1 then (some 280) else (if x129006 > x3 then (some 280) else (some 0)))))
end
def assizeref28_Check.f (k : Nat) (a0_0 : Int) (a0_1 : Int) (l0_2 : List Int) (l0_3 : List Int) (l0_4 : List (S53)) (a0_5 : Int) (a0_6 : Int) : Option (Int) := if a0_1 < 0 then (assizeref28_Check.j0 k (l0_2.length : Int) true a0_0 a0_1 l0_2 l0_3 l0_4 a0_5 a0_6) else (if a0_0 < a0_1 then (assizeref28_Check.j0 k (l0_2.length : Int) true a0_0 a0_1 l0_2 l0_3 l0_4 a0_5 a0_6) else (if a0_0 > 999 then (assizeref28_Check.j0 k (l0_2.length : Int) true a0_0 a0_1 l0_2 l0_3 l0_4 a0_5 a0_6) else (if (l0_2.length : Int) < 2 then (assizeref28_Check.j0 k (l0_2.length : Int) true a0_0 a0_1 l0_2 l0_3 l0_4 a0_5 a0_6) else (if (l0_2.length : Int) > 24 then (assizeref28_Check.j0 k (l0_2.length : Int) true a0_0 a0_1 l0_2 l0_3 l0_4 a0_5 a0_6) else (if (l0_3.length : Int) = (l0_2.length : Int) then (assizeref28_Check.j0 k (l0_2.length : Int) (decide ((l0_4.length : Int) > 552)) a0_0 a0_1 l0_2 l0_3 l0_4 a0_5 a0_6) else (assizeref28_Check.j0 k (l0_2.length : Int) true a0_0 a0_1 l0_2 l0_3 l0_4 a0_5 a0_6))))))
theorem assizeref28_Check.mono_l : ∀ k, (∀ y0 y1 y2 y3 y4 y5 y6 y7 y8, LeO (assizeref28_Check.j0 k y0 y1 y2 y3 y4 y5 y6 y7 y8) (assizeref28_Check.j0 (k + 1) y0 y1 y2 y3 y4 y5 y6 y7 y8)) ∧ (∀ y0 y1 y2 y3 y4 y5 y6 y7 y8, LeO (assizeref28_Check.l0 k y0 y1 y2 y3 y4 y5 y6 y7 y8) (assizeref28_Check.l0 (k + 1) y0 y1 y2 y3 y4 y5 y6 y7 y8)) ∧ (∀ y0 y1 y2 y3 y4 y5 y6 y7 y8, LeO (assizeref28_Check.l1 k y0 y1 y2 y3 y4 y5 y6 y7 y8) (assizeref28_Check.l1 (k + 1) y0 y1 y2 y3 y4 y5 y6 y7 y8))
  | 0 => ⟨fun _ _ _ _ _ _ _ _ _ r h => by simp [assizeref28_Check.j0] at h, fun _ _ _ _ _ _ _ _ _ r h => by simp [assizeref28_Check.l0] at h, fun _ _ _ _ _ _ _ _ _ r h => by simp [assizeref28_Check.l1] at h⟩
  | k + 1 => by
    obtain ⟨ih0, ih1, ih2⟩ := assizeref28_Check.mono_l k
    refine ⟨?_, ?_, ?_⟩
    · intro y0 y1 y2 y3 y4 y5 y6 y7 y8
      unfold assizeref28_Check.j0
      repeat' first
      | (with_reducible exact ih0 _ _ _ _ _ _ _ _ _)
      | (with_reducible exact ih1 _ _ _ _ _ _ _ _ _)
      | (with_reducible exact ih2 _ _ _ _ _ _ _ _ _)
      | (with_reducible exact LeO.refl _)
      | (with_reducible exact LeO.none _)
      | (with_reducible refine LeO.ite ?_ ?_)
      | (with_reducible refine LeO.bind ?_ (fun _ => ?_))
      | exact ih0 _ _ _ _ _ _ _ _ _
      | exact ih1 _ _ _ _ _ _ _ _ _
      | exact ih2 _ _ _ _ _ _ _ _ _
      | exact LeO.none _
      | refine LeO.ite ?_ ?_
      | refine LeO.bind ?_ (fun _ => ?_)
    · intro y0 y1 y2 y3 y4 y5 y6 y7 y8
      unfold assizeref28_Check.l0
      repeat' first
      | (with_reducible exact ih0 _ _ _ _ _ _ _ _ _)
      | (with_reducible exact ih1 _ _ _ _ _ _ _ _ _)
      | (with_reducible exact ih2 _ _ _ _ _ _ _ _ _)
      | (with_reducible exact LeO.refl _)
      | (with_reducible exact LeO.none _)
      | (with_reducible refine LeO.ite ?_ ?_)
      | (with_reducible refine LeO.bind ?_ (fun _ => ?_))
      | exact ih0 _ _ _ _ _ _ _ _ _
      | exact ih1 _ _ _ _ _ _ _ _ _
      | exact ih2 _ _ _ _ _ _ _ _ _
      | exact LeO.none _
      | refine LeO.ite ?_ ?_
      | refine LeO.bind ?_ (fun _ => ?_)
    · intro y0 y1 y2 y3 y4 y5 y6 y7 y8
      unfold assizeref28_Check.l1
      repeat' first
      | (with_reducible exact ih0 _ _ _ _ _ _ _ _ _)
      | (with_reducible exact ih1 _ _ _ _ _ _ _ _ _)
      | (with_reducible exact ih2 _ _ _ _ _ _ _ _ _)
      | (with_reducible exact LeO.refl _)
      | (with_reducible exact LeO.none _)
      | (with_reducible refine LeO.ite ?_ ?_)
      | (with_reducible refine LeO.bind ?_ (fun _ => ?_))
      | exact ih0 _ _ _ _ _ _ _ _ _
      | exact ih1 _ _ _ _ _ _ _ _ _
      | exact ih2 _ _ _ _ _ _ _ _ _
      | exact LeO.none _
      | refine LeO.ite ?_ ?_
      | refine LeO.bind ?_ (fun _ => ?_)
theorem assizeref28_Check.mono : ∀ a0 a1 a2 a3 a4 a5 a6 k, LeO (assizeref28_Check.f k a0 a1 a2 a3 a4 a5 a6) (assizeref28_Check.f (k + 1) a0 a1 a2 a3 a4 a5 a6) := by
  intro a0 a1 a2 a3 a4 a5 a6 k
  obtain ⟨ih0, ih1, ih2⟩ := assizeref28_Check.mono_l k
  unfold assizeref28_Check.f
  repeat' first
      | (with_reducible exact ih0 _ _ _ _ _ _ _ _ _)
      | (with_reducible exact ih1 _ _ _ _ _ _ _ _ _)
      | (with_reducible exact ih2 _ _ _ _ _ _ _ _ _)
      | (with_reducible exact LeO.refl _)
      | (with_reducible exact LeO.none _)
      | (with_reducible refine LeO.ite ?_ ?_)
      | (with_reducible refine LeO.bind ?_ (fun _ => ?_))
      | exact ih0 _ _ _ _ _ _ _ _ _
      | exact ih1 _ _ _ _ _ _ _ _ _
      | exact ih2 _ _ _ _ _ _ _ _ _
      | exact LeO.none _
      | refine LeO.ite ?_ ?_
      | refine LeO.bind ?_ (fun _ => ?_)
set_option maxHeartbeats 8000000 in
set_option maxRecDepth 100000 in
theorem assizeref28_Check.calls (k : Nat) (a0_0 : Int) (a0_1 : Int) (A0_2 : Option Addr) (c0_2 : Nat) (l0_2 : List Int) (A0_3 : Option Addr) (c0_3 : Nat) (l0_3 : List Int) (A0_4 : Option Addr) (c0_4 : Nat) (l0_4 : List (S53)) (a0_5 : Int) (a0_6 : Int) (r : Int) (w : World) (hr0_2 : Kd.C (Kd.int .i64) w A0_2 l0_2.length l0_2) (hc0_2 : l0_2.length ≤ c0_2) (hr0_3 : Kd.C (Kd.int .i64) w A0_3 l0_3.length l0_3) (hc0_3 : l0_3.length ≤ c0_3) (hr0_4 : Kd.C k53 w A0_4 l0_4.length l0_4) (hc0_4 : l0_4.length ≤ c0_4) (h : assizeref28_Check.f k a0_0 a0_1 l0_2 l0_3 l0_4 a0_5 a0_6 = some r) :
    Calls Tryz.prog 11 #[.agg #[.int .i64 a0_0, .int .i64 a0_1, .slice A0_2 l0_2.length c0_2, .slice A0_3 l0_3.length c0_3, .slice A0_4 l0_4.length c0_4, .int .i64 a0_5, .int .i64 a0_6]] w fun e w' => e = .returned (.int .i64 r) ∧ Below w.heap.size w w' := by
  have hu25 := Tryz.underlying25
  have hu53 := Tryz.underlying53
  have HR0_2 := Aside0.mk hr0_2
  have HC0_2 := Aside0.mk hc0_2
  clear hr0_2 hc0_2
  have HR0_3 := Aside0.mk hr0_3
  have HC0_3 := Aside0.mk hc0_3
  clear hr0_3 hc0_3
  have HR0_4 := Aside0.mk hr0_4
  have HC0_4 := Aside0.mk hc0_4
  clear hr0_4 hc0_4
  have HB := Aside0.mk (Below.refl w.heap.size w)
  have H : (if a0_1 < 0 then (assizeref28_Check.j0 k (l0_2.length : Int) true a0_0 a0_1 l0_2 l0_3 l0_4 a0_5 a0_6) else (if a0_0 < a0_1 then (assizeref28_Check.j0 k (l0_2.length : Int) true a0_0 a0_1 l0_2 l0_3 l0_4 a0_5 a0_6) else (if a0_0 > 999 then (assizeref28_Check.j0 k (l0_2.length : Int) true a0_0 a0_1 l0_2 l0_3 l0_4 a0_5 a0_6) else (if (l0_2.length : Int) < 2 then (assizeref28_Check.j0 k (l0_2.length : Int) true a0_0 a0_1 l0_2 l0_3 l0_4 a0_5 a0_6) else (if (l0_2.length : Int) > 24 then (assizeref28_Check.j0 k (l0_2.length : Int) true a0_0 a0_1 l0_2 l0_3 l0_4 a0_5 a0_6) else (if (l0_3.length : Int) = (l0_2.length : Int) then (assizeref28_Check.j0 k (l0_2.length : Int) (decide ((l0_4.length : Int) > 552)) a0_0 a0_1 l0_2 l0_3 l0_4 a0_5 a0_6) else (assizeref28_Check.j0 k (l0_2.length : Int) true a0_0 a0_1 l0_2 l0_3 l0_4 a0_5 a0_6))))))) = some r := h
  clear h
  have HC2 := Aside0.mk H
  clear H
  go_enter Tryz.func11, Tryz.ntmps11
  go_upto_region 2 with (first | ((with_reducible refine gate_dst (N := 1) rfl ?_); (try (refine gate_guard (by rfl) ?_; dsimp only)); refine box_event ?hg (N := 1) ?hd (cs := #[.int .i64 a0_0, .int .i64 a0_1, .slice A0_2 l0_2.length c0_2, .slice A0_3 l0_3.length c0_3, .slice A0_4 l0_4.length c0_4, .int .i64 a0_5, .int .i64 a0_6]) (t := 25) ?hr ?_; (case hd => rfl); (case hg => rfl); (case hr => first | (go_simp; done) | (go_simp; rfl)); intro gb128 hg w3 hbox hb; have n0_ := Aside0.mk (below_step (by repeat (first | (with_reducible first | exact HB.out | apply below_alloc | apply pw_below_drewN | apply below_drew1) | exact HB.out)) hb); have n1_ := Aside0.mk (hbox); have n2_ := Aside0.mk ((by rw [hg]; exact (below_size (by repeat (first | (with_reducible first | exact HB.out | apply below_alloc | apply pw_below_drewN | apply below_drew1) | exact HB.out))) : w.heap.size ≤ gb128)); have n3_ := Aside0.mk ((by rw [hg]; exact (below_size (by repeat (first | (with_reducible first | exact HB.out | apply below_alloc | apply pw_below_drewN | apply below_drew1) | exact HB.out))) : w.heap.size ≤ gb128)); clear HB; have HB := n0_; have BK128 := n1_; have GW128 := n2_; have GE128 := n3_; clear n0_ n1_ n2_ n3_; clear hb hbox hg; have hcz4_0 : w3.cell? ⟨gb128, 0, none⟩ = some (.int .i64 a0_0) := (blk_cell BK128.out 0).trans rfl; have hcz4_1 : w3.cell? ⟨gb128, 1, none⟩ = some (.int .i64 a0_1) := (blk_cell BK128.out 1).trans rfl; have hcz4_2 : w3.cell? ⟨gb128, 2, none⟩ = some (.slice A0_2 l0_2.length c0_2) := (blk_cell BK128.out 2).trans rfl; have hcz4_3 : w3.cell? ⟨gb128, 3, none⟩ = some (.slice A0_3 l0_3.length c0_3) := (blk_cell BK128.out 3).trans rfl; have hcz4_4 : w3.cell? ⟨gb128, 4, none⟩ = some (.slice A0_4 l0_4.length c0_4) := (blk_cell BK128.out 4).trans rfl; have hcz4_5 : w3.cell? ⟨gb128, 5, none⟩ = some (.int .i64 a0_5) := (blk_cell BK128.out 5).trans rfl; have hcz4_6 : w3.cell? ⟨gb128, 6, none⟩ = some (.int .i64 a0_6) := (blk_cell BK128.out 6).trans rfl; have hfz4_0 := blk_frozen BK128.out 0; have hfz4_1 := blk_frozen BK128.out 1; have hfz4_2 := blk_frozen BK128.out 2; have hfz4_3 := blk_frozen BK128.out 3; have hfz4_4 := blk_frozen BK128.out 4; have hfz4_5 := blk_frozen BK128.out 5; have hfz4_6 := blk_frozen BK128.out 6))
  repeat (go_quiet (first | ((with_reducible refine gate_dst (N := 1) rfl ?_); (try (refine gate_guard (by rfl) ?_; dsimp only)); refine box_event ?hg (N := 1) ?hd (cs := #[.int .i64 a0_0, .int .i64 a0_1, .slice A0_2 l0_2.length c0_2, .slice A0_3 l0_3.length c0_3, .slice A0_4 l0_4.length c0_4, .int .i64 a0_5, .int .i64 a0_6]) (t := 25) ?hr ?_; (case hd => rfl); (case hg => rfl); (case hr => first | (go_simp; done) | (go_simp; rfl)); intro gb128 hg w3 hbox hb; have n0_ := Aside0.mk (below_step (by repeat (first | (with_reducible first | exact HB.out | apply below_alloc | apply pw_below_drewN | apply below_drew1) | exact HB.out)) hb); have n1_ := Aside0.mk (hbox); have n2_ := Aside0.mk ((by rw [hg]; exact (below_size (by repeat (first | (with_reducible first | exact HB.out | apply below_alloc | apply pw_below_drewN | apply below_drew1) | exact HB.out))) : w.heap.size ≤ gb128)); have n3_ := Aside0.mk ((by rw [hg]; exact (below_size (by repeat (first | (with_reducible first | exact HB.out | apply below_alloc | apply pw_below_drewN | apply below_drew1) | exact HB.out))) : w.heap.size ≤ gb128)); clear HB; have HB := n0_; have BK128 := n1_; have GW128 := n2_; have GE128 := n3_; clear n0_ n1_ n2_ n3_; clear hb hbox hg; have hcz4_0 : w3.cell? ⟨gb128, 0, none⟩ = some (.int .i64 a0_0) := (blk_cell BK128.out 0).trans rfl; have hcz4_1 : w3.cell? ⟨gb128, 1, none⟩ = some (.int .i64 a0_1) := (blk_cell BK128.out 1).trans rfl; have hcz4_2 : w3.cell? ⟨gb128, 2, none⟩ = some (.slice A0_2 l0_2.length c0_2) := (blk_cell BK128.out 2).trans rfl; have hcz4_3 : w3.cell? ⟨gb128, 3, none⟩ = some (.slice A0_3 l0_3.length c0_3) := (blk_cell BK128.out 3).trans rfl; have hcz4_4 : w3.cell? ⟨gb128, 4, none⟩ = some (.slice A0_4 l0_4.length c0_4) := (blk_cell BK128.out 4).trans rfl; have hcz4_5 : w3.cell? ⟨gb128, 5, none⟩ = some (.int .i64 a0_5) := (blk_cell BK128.out 5).trans rfl; have hcz4_6 : w3.cell? ⟨gb128, 6, none⟩ = some (.int .i64 a0_6) := (blk_cell BK128.out 6).trans rfl; have hfz4_0 := blk_frozen BK128.out 0; have hfz4_1 := blk_frozen BK128.out 1; have hfz4_2 := blk_frozen BK128.out 2; have hfz4_3 := blk_frozen BK128.out 3; have hfz4_4 := blk_frozen BK128.out 4; have hfz4_5 := blk_frozen BK128.out 5; have hfz4_6 := blk_frozen BK128.out 6)); go_upto_region 2 with (first | ((with_reducible refine gate_dst (N := 1) rfl ?_); (try (refine gate_guard (by rfl) ?_; dsimp only)); refine box_event ?hg (N := 1) ?hd (cs := #[.int .i64 a0_0, .int .i64 a0_1, .slice A0_2 l0_2.length c0_2, .slice A0_3 l0_3.length c0_3, .slice A0_4 l0_4.length c0_4, .int .i64 a0_5, .int .i64 a0_6]) (t := 25) ?hr ?_; (case hd => rfl); (case hg => rfl); (case hr => first | (go_simp; done) | (go_simp; rfl)); intro gb128 hg w3 hbox hb; have n0_ := Aside0.mk (below_step (by repeat (first | (with_reducible first | exact HB.out | apply below_alloc | apply pw_below_drewN | apply below_drew1) | exact HB.out)) hb); have n1_ := Aside0.mk (hbox); have n2_ := Aside0.mk ((by rw [hg]; exact (below_size (by repeat (first | (with_reducible first | exact HB.out | apply below_alloc | apply pw_below_drewN | apply below_drew1) | exact HB.out))) : w.heap.size ≤ gb128)); have n3_ := Aside0.mk ((by rw [hg]; exact (below_size (by repeat (first | (with_reducible first | exact HB.out | apply below_alloc | apply pw_below_drewN | apply below_drew1) | exact HB.out))) : w.heap.size ≤ gb128)); clear HB; have HB := n0_; have BK128 := n1_; have GW128 := n2_; have GE128 := n3_; clear n0_ n1_ n2_ n3_; clear hb hbox hg; have hcz4_0 : w3.cell? ⟨gb128, 0, none⟩ = some (.int .i64 a0_0) := (blk_cell BK128.out 0).trans rfl; have hcz4_1 : w3.cell? ⟨gb128, 1, none⟩ = some (.int .i64 a0_1) := (blk_cell BK128.out 1).trans rfl; have hcz4_2 : w3.cell? ⟨gb128, 2, none⟩ = some (.slice A0_2 l0_2.length c0_2) := (blk_cell BK128.out 2).trans rfl; have hcz4_3 : w3.cell? ⟨gb128, 3, none⟩ = some (.slice A0_3 l0_3.length c0_3) := (blk_cell BK128.out 3).trans rfl; have hcz4_4 : w3.cell? ⟨gb128, 4, none⟩ = some (.slice A0_4 l0_4.length c0_4) := (blk_cell BK128.out 4).trans rfl; have hcz4_5 : w3.cell? ⟨gb128, 5, none⟩ = some (.int .i64 a0_5) := (blk_cell BK128.out 5).trans rfl; have hcz4_6 : w3.cell? ⟨gb128, 6, none⟩ = some (.int .i64 a0_6) := (blk_cell BK128.out 6).trans rfl; have hfz4_0 := blk_frozen BK128.out 0; have hfz4_1 := blk_frozen BK128.out 1; have hfz4_2 := blk_frozen BK128.out 2; have hfz4_3 := blk_frozen BK128.out 3; have hfz4_4 := blk_frozen BK128.out 4; have hfz4_5 := blk_frozen BK128.out 5; have hfz4_6 := blk_frozen BK128.out 6)))
  (try simp only [Act.put, List.setIfInBounds_toArray, List.set_cons_zero, List.set_cons_succ])
  go_cut [45] (fun v45 wc => ∃ (kq : Nat) (x45_1 : Bool), v45 = .bool x45_1 ∧ Aside0 (assizeref28_Check.j0 kq (l0_2.length : Int) x45_1 a0_0 a0_1 l0_2 l0_3 l0_4 a0_5 a0_6 = some r) ∧ Aside0 (kq ≤ k) ∧ Aside0 (wc.heap[gb128]? = some (.cells #[.int .i64 a0_0, .int .i64 a0_1, (.slice A0_2 l0_2.length c0_2), (.slice A0_3 l0_3.length c0_3), (.slice A0_4 l0_4.length c0_4), .int .i64 a0_5, .int .i64 a0_6] 25 (0, 0))) ∧ Aside0 (Below w.heap.size w wc))
  case first =>
    have H := HC2.out
    clear HC2
    by_cases c5 : a0_1 < 0
    · rw [if_pos c5] at H
      have c5b0 : decide (a0_1 < 0) = true := decide_eq_true c5
      clear c5
      (first | rw [c5b0] | (simp only [i64_w, i32_w]; rw [c5b0]) | skip)
      have H' := Aside0.mk H
      clear H
      have hcz6_0 : w3.cell? ⟨gb128, 0, none⟩ = some (.int .i64 a0_0) := (blk_cell BK128.out 0).trans rfl
      have hcz6_1 : w3.cell? ⟨gb128, 1, none⟩ = some (.int .i64 a0_1) := (blk_cell BK128.out 1).trans rfl
      have hcz6_2 : w3.cell? ⟨gb128, 2, none⟩ = some (.slice A0_2 l0_2.length c0_2) := (blk_cell BK128.out 2).trans rfl
      have hcz6_3 : w3.cell? ⟨gb128, 3, none⟩ = some (.slice A0_3 l0_3.length c0_3) := (blk_cell BK128.out 3).trans rfl
      have hcz6_4 : w3.cell? ⟨gb128, 4, none⟩ = some (.slice A0_4 l0_4.length c0_4) := (blk_cell BK128.out 4).trans rfl
      have hcz6_5 : w3.cell? ⟨gb128, 5, none⟩ = some (.int .i64 a0_5) := (blk_cell BK128.out 5).trans rfl
      have hcz6_6 : w3.cell? ⟨gb128, 6, none⟩ = some (.int .i64 a0_6) := (blk_cell BK128.out 6).trans rfl
      have hfz6_0 := blk_frozen BK128.out 0
      have hfz6_1 := blk_frozen BK128.out 1
      have hfz6_2 := blk_frozen BK128.out 2
      have hfz6_3 := blk_frozen BK128.out 3
      have hfz6_4 := blk_frozen BK128.out 4
      have hfz6_5 := blk_frozen BK128.out 5
      have hfz6_6 := blk_frozen BK128.out 6
      go_wp2
      repeat (go_quiet (fail); try go_wp2)
      go_meet
      case rel => exact ⟨_, (true), (by first | rfl | (simp; done) | (simp [*]; done)), H', ⟨by first | omega | exact Nat.le_refl _⟩, ⟨by (with_reducible repeat (first | refine blk_drewN ?_ _ | refine blk_drew ?_ | refine blk_alloc ?_ _)); exact BK128.out⟩, ⟨by repeat (first | (with_reducible first | exact HB.out | apply below_alloc | apply pw_below_drewN | apply below_drew1 | refine below_set ?_ GE128.out) | exact HB.out)⟩⟩
    · rw [if_neg c5] at H
      have c5b0 : decide (a0_1 < 0) = false := decide_eq_false c5
      clear c5
      (first | rw [c5b0] | (simp only [i64_w, i32_w]; rw [c5b0]) | skip)
      by_cases c7 : a0_0 < a0_1
      · rw [if_pos c7] at H
        have c7b0 : decide (a0_0 < a0_1) = true := decide_eq_true c7
        clear c7
        have H' := Aside0.mk H
        clear H
        have hcz8_0 : w3.cell? ⟨gb128, 0, none⟩ = some (.int .i64 a0_0) := (blk_cell BK128.out 0).trans rfl
        have hcz8_1 : w3.cell? ⟨gb128, 1, none⟩ = some (.int .i64 a0_1) := (blk_cell BK128.out 1).trans rfl
        have hcz8_2 : w3.cell? ⟨gb128, 2, none⟩ = some (.slice A0_2 l0_2.length c0_2) := (blk_cell BK128.out 2).trans rfl
        have hcz8_3 : w3.cell? ⟨gb128, 3, none⟩ = some (.slice A0_3 l0_3.length c0_3) := (blk_cell BK128.out 3).trans rfl
        have hcz8_4 : w3.cell? ⟨gb128, 4, none⟩ = some (.slice A0_4 l0_4.length c0_4) := (blk_cell BK128.out 4).trans rfl
        have hcz8_5 : w3.cell? ⟨gb128, 5, none⟩ = some (.int .i64 a0_5) := (blk_cell BK128.out 5).trans rfl
        have hcz8_6 : w3.cell? ⟨gb128, 6, none⟩ = some (.int .i64 a0_6) := (blk_cell BK128.out 6).trans rfl
        have hfz8_0 := blk_frozen BK128.out 0
        have hfz8_1 := blk_frozen BK128.out 1
        have hfz8_2 := blk_frozen BK128.out 2
        have hfz8_3 := blk_frozen BK128.out 3
        have hfz8_4 := blk_frozen BK128.out 4
        have hfz8_5 := blk_frozen BK128.out 5
        have hfz8_6 := blk_frozen BK128.out 6
        go_wp2
        repeat (go_quiet (fail); try go_wp2)
        go_meet
        case rel => exact ⟨_, (true), (by first | rfl | (simp; done) | (simp [*]; done)), H', ⟨by first | omega | exact Nat.le_refl _⟩, ⟨by (with_reducible repeat (first | refine blk_drewN ?_ _ | refine blk_drew ?_ | refine blk_alloc ?_ _)); exact BK128.out⟩, ⟨by repeat (first | (with_reducible first | exact HB.out | apply below_alloc | apply pw_below_drewN | apply below_drew1 | refine below_set ?_ GE128.out) | exact HB.out)⟩⟩
      · rw [if_neg c7] at H
        have c7b0 : decide (a0_0 < a0_1) = false := decide_eq_false c7
        clear c7
        by_cases c9 : a0_0 > 999
        · rw [if_pos c9] at H
          have c9b0 : decide (999 < a0_0) = true := decide_eq_true c9
          clear c9
          have H' := Aside0.mk H
          clear H
          have hcz10_0 : w3.cell? ⟨gb128, 0, none⟩ = some (.int .i64 a0_0) := (blk_cell BK128.out 0).trans rfl
          have hcz10_1 : w3.cell? ⟨gb128, 1, none⟩ = some (.int .i64 a0_1) := (blk_cell BK128.out 1).trans rfl
          have hcz10_2 : w3.cell? ⟨gb128, 2, none⟩ = some (.slice A0_2 l0_2.length c0_2) := (blk_cell BK128.out 2).trans rfl
          have hcz10_3 : w3.cell? ⟨gb128, 3, none⟩ = some (.slice A0_3 l0_3.length c0_3) := (blk_cell BK128.out 3).trans rfl
          have hcz10_4 : w3.cell? ⟨gb128, 4, none⟩ = some (.slice A0_4 l0_4.length c0_4) := (blk_cell BK128.out 4).trans rfl
          have hcz10_5 : w3.cell? ⟨gb128, 5, none⟩ = some (.int .i64 a0_5) := (blk_cell BK128.out 5).trans rfl
          have hcz10_6 : w3.cell? ⟨gb128, 6, none⟩ = some (.int .i64 a0_6) := (blk_cell BK128.out 6).trans rfl
          have hfz10_0 := blk_frozen BK128.out 0
          have hfz10_1 := blk_frozen BK128.out 1
          have hfz10_2 := blk_frozen BK128.out 2
          have hfz10_3 := blk_frozen BK128.out 3
          have hfz10_4 := blk_frozen BK128.out 4
          have hfz10_5 := blk_frozen BK128.out 5
          have hfz10_6 := blk_frozen BK128.out 6
          go_wp2
          repeat (go_quiet (fail); try go_wp2)
          go_meet
          case rel => exact ⟨_, (true), (by first | rfl | (simp; done) | (simp [*]; done)), H', ⟨by first | omega | exact Nat.le_refl _⟩, ⟨by (with_reducible repeat (first | refine blk_drewN ?_ _ | refine blk_drew ?_ | refine blk_alloc ?_ _)); exact BK128.out⟩, ⟨by repeat (first | (with_reducible first | exact HB.out | apply below_alloc | apply pw_below_drewN | apply below_drew1 | refine below_set ?_ GE128.out) | exact HB.out)⟩⟩
        · rw [if_neg c9] at H
          have c9b0 : decide (999 < a0_0) = false := decide_eq_false c9
          clear c9
          by_cases c11 : (l0_2.length : Int) < 2
          · rw [if_pos c11] at H
            have c11b0 : decide ((l0_2.length : Int) < 2) = true := decide_eq_true c11
            have c11b1 : decide (l0_2.length < 2) = true := decide_eq_true (by omega)
            clear c11
            have H' := Aside0.mk H
            clear H
            have hcz12_0 : w3.cell? ⟨gb128, 0, none⟩ = some (.int .i64 a0_0) := (blk_cell BK128.out 0).trans rfl
            have hcz12_1 : w3.cell? ⟨gb128, 1, none⟩ = some (.int .i64 a0_1) := (blk_cell BK128.out 1).trans rfl
            have hcz12_2 : w3.cell? ⟨gb128, 2, none⟩ = some (.slice A0_2 l0_2.length c0_2) := (blk_cell BK128.out 2).trans rfl
            have hcz12_3 : w3.cell? ⟨gb128, 3, none⟩ = some (.slice A0_3 l0_3.length c0_3) := (blk_cell BK128.out 3).trans rfl
            have hcz12_4 : w3.cell? ⟨gb128, 4, none⟩ = some (.slice A0_4 l0_4.length c0_4) := (blk_cell BK128.out 4).trans rfl
            have hcz12_5 : w3.cell? ⟨gb128, 5, none⟩ = some (.int .i64 a0_5) := (blk_cell BK128.out 5).trans rfl
            have hcz12_6 : w3.cell? ⟨gb128, 6, none⟩ = some (.int .i64 a0_6) := (blk_cell BK128.out 6).trans rfl
            have hfz12_0 := blk_frozen BK128.out 0
            have hfz12_1 := blk_frozen BK128.out 1
            have hfz12_2 := blk_frozen BK128.out 2
            have hfz12_3 := blk_frozen BK128.out 3
            have hfz12_4 := blk_frozen BK128.out 4
            have hfz12_5 := blk_frozen BK128.out 5
            have hfz12_6 := blk_frozen BK128.out 6
            go_wp2
            repeat (go_quiet (fail); try go_wp2)
            go_meet
            case rel => exact ⟨_, (true), (by first | rfl | (simp; done) | (simp [*]; done)), H', ⟨by first | omega | exact Nat.le_refl _⟩, ⟨by (with_reducible repeat (first | refine blk_drewN ?_ _ | refine blk_drew ?_ | refine blk_alloc ?_ _)); exact BK128.out⟩, ⟨by repeat (first | (with_reducible first | exact HB.out | apply below_alloc | apply pw_below_drewN | apply below_drew1 | refine below_set ?_ GE128.out) | exact HB.out)⟩⟩
          · rw [if_neg c11] at H
            have c11b0 : decide ((l0_2.length : Int) < 2) = false := decide_eq_false c11
            have c11b1 : decide (l0_2.length < 2) = false := decide_eq_false (by omega)
            clear c11
            by_cases c13 : (l0_2.length : Int) > 24
            · rw [if_pos c13] at H
              have c13b0 : decide (24 < (l0_2.length : Int)) = true := decide_eq_true c13
              have c13b1 : decide (24 < l0_2.length) = true := decide_eq_true (by omega)
              clear c13
              have H' := Aside0.mk H
              clear H
              have hcz14_0 : w3.cell? ⟨gb128, 0, none⟩ = some (.int .i64 a0_0) := (blk_cell BK128.out 0).trans rfl
              have hcz14_1 : w3.cell? ⟨gb128, 1, none⟩ = some (.int .i64 a0_1) := (blk_cell BK128.out 1).trans rfl
              have hcz14_2 : w3.cell? ⟨gb128, 2, none⟩ = some (.slice A0_2 l0_2.length c0_2) := (blk_cell BK128.out 2).trans rfl
              have hcz14_3 : w3.cell? ⟨gb128, 3, none⟩ = some (.slice A0_3 l0_3.length c0_3) := (blk_cell BK128.out 3).trans rfl
              have hcz14_4 : w3.cell? ⟨gb128, 4, none⟩ = some (.slice A0_4 l0_4.length c0_4) := (blk_cell BK128.out 4).trans rfl
              have hcz14_5 : w3.cell? ⟨gb128, 5, none⟩ = some (.int .i64 a0_5) := (blk_cell BK128.out 5).trans rfl
              have hcz14_6 : w3.cell? ⟨gb128, 6, none⟩ = some (.int .i64 a0_6) := (blk_cell BK128.out 6).trans rfl
              have hfz14_0 := blk_frozen BK128.out 0
              have hfz14_1 := blk_frozen BK128.out 1
              have hfz14_2 := blk_frozen BK128.out 2
              have hfz14_3 := blk_frozen BK128.out 3
              have hfz14_4 := blk_frozen BK128.out 4
              have hfz14_5 := blk_frozen BK128.out 5
              have hfz14_6 := blk_frozen BK128.out 6
              go_wp2
              repeat (go_quiet (fail); try go_wp2)
              go_meet
              case rel => exact ⟨_, (true), (by first | rfl | (simp; done) | (simp [*]; done)), H', ⟨by first | omega | exact Nat.le_refl _⟩, ⟨by (with_reducible repeat (first | refine blk_drewN ?_ _ | refine blk_drew ?_ | refine blk_alloc ?_ _)); exact BK128.out⟩, ⟨by repeat (first | (with_reducible first | exact HB.out | apply below_alloc | apply pw_below_drewN | apply below_drew1 | refine below_set ?_ GE128.out) | exact HB.out)⟩⟩
            · rw [if_neg c13] at H
              have c13b0 : decide (24 < (l0_2.length : Int)) = false := decide_eq_false c13
              have c13b1 : decide (24 < l0_2.length) = false := decide_eq_false (by omega)
              clear c13
              by_cases c15 : (l0_3.length : Int) = (l0_2.length : Int)
              · rw [if_pos c15] at H
                have c15b0 : ((l0_3.length : Int) == (l0_2.length : Int)) = true := beq_iff_eq.mpr c15
                have c15b1 : ((l0_3.length : Int) != (l0_2.length : Int)) = false := bne_eq_false_iff_eq.mpr c15
                have c15b2 : (l0_3.length == l0_2.length) = true := by first | simpa using c15 | (simp at c15 ⊢; omega)
                clear c15
                have H' := Aside0.mk H
                clear H
                have hcz16_0 : w3.cell? ⟨gb128, 0, none⟩ = some (.int .i64 a0_0) := (blk_cell BK128.out 0).trans rfl
                have hcz16_1 : w3.cell? ⟨gb128, 1, none⟩ = some (.int .i64 a0_1) := (blk_cell BK128.out 1).trans rfl
                have hcz16_2 : w3.cell? ⟨gb128, 2, none⟩ = some (.slice A0_2 l0_2.length c0_2) := (blk_cell BK128.out 2).trans rfl
                have hcz16_3 : w3.cell? ⟨gb128, 3, none⟩ = some (.slice A0_3 l0_3.length c0_3) := (blk_cell BK128.out 3).trans rfl
                have hcz16_4 : w3.cell? ⟨gb128, 4, none⟩ = some (.slice A0_4 l0_4.length c0_4) := (blk_cell BK128.out 4).trans rfl
                have hcz16_5 : w3.cell? ⟨gb128, 5, none⟩ = some (.int .i64 a0_5) := (blk_cell BK128.out 5).trans rfl
                have hcz16_6 : w3.cell? ⟨gb128, 6, none⟩ = some (.int .i64 a0_6) := (blk_cell BK128.out 6).trans rfl
                have hfz16_0 := blk_frozen BK128.out 0
                have hfz16_1 := blk_frozen BK128.out 1
                have hfz16_2 := blk_frozen BK128.out 2
                have hfz16_3 := blk_frozen BK128.out 3
                have hfz16_4 := blk_frozen BK128.out 4
                have hfz16_5 := blk_frozen BK128.out 5
                have hfz16_6 := blk_frozen BK128.out 6
                go_wp2
                repeat (go_quiet (fail); try go_wp2)
                go_meet
                case rel => exact ⟨_, (decide ((l0_4.length : Int) > 552)), (by first | rfl | (simp; done) | (simp [*]; done)), H', ⟨by first | omega | exact Nat.le_refl _⟩, ⟨by (with_reducible repeat (first | refine blk_drewN ?_ _ | refine blk_drew ?_ | refine blk_alloc ?_ _)); exact BK128.out⟩, ⟨by repeat (first | (with_reducible first | exact HB.out | apply below_alloc | apply pw_below_drewN | apply below_drew1 | refine below_set ?_ GE128.out) | exact HB.out)⟩⟩
              · rw [if_neg c15] at H
                have c15b0 : ((l0_3.length : Int) == (l0_2.length : Int)) = false := beq_eq_false_iff_ne.mpr c15
                have c15b1 : ((l0_3.length : Int) != (l0_2.length : Int)) = true := bne_iff_ne.mpr c15
                have c15b2 : (l0_3.length == l0_2.length) = false := by first | simpa using c15 | (simp at c15 ⊢; omega)
                have H' := Aside0.mk H
                clear H
                have hcz17_0 : w3.cell? ⟨gb128, 0, none⟩ = some (.int .i64 a0_0) := (blk_cell BK128.out 0).trans rfl
                have hcz17_1 : w3.cell? ⟨gb128, 1, none⟩ = some (.int .i64 a0_1) := (blk_cell BK128.out 1).trans rfl
                have hcz17_2 : w3.cell? ⟨gb128, 2, none⟩ = some (.slice A0_2 l0_2.length c0_2) := (blk_cell BK128.out 2).trans rfl
                have hcz17_3 : w3.cell? ⟨gb128, 3, none⟩ = some (.slice A0_3 l0_3.length c0_3) := (blk_cell BK128.out 3).trans rfl
                have hcz17_4 : w3.cell? ⟨gb128, 4, none⟩ = some (.slice A0_4 l0_4.length c0_4) := (blk_cell BK128.out 4).trans rfl
                have hcz17_5 : w3.cell? ⟨gb128, 5, none⟩ = some (.int .i64 a0_5) := (blk_cell BK128.out 5).trans rfl
                have hcz17_6 : w3.cell? ⟨gb128, 6, none⟩ = some (.int .i64 a0_6) := (blk_cell BK128.out 6).trans rfl
                have hfz17_0 := blk_frozen BK128.out 0
                have hfz17_1 := blk_frozen BK128.out 1
                have hfz17_2 := blk_frozen BK128.out 2
                have hfz17_3 := blk_frozen BK128.out 3
                have hfz17_4 := blk_frozen BK128.out 4
                have hfz17_5 := blk_frozen BK128.out 5
                have hfz17_6 := blk_frozen BK128.out 6
                go_wp2
                repeat (go_quiet (fail); try go_wp2)
                go_meet
                case rel => exact ⟨_, (true), (by first | rfl | (simp; done) | (simp [*]; done)), H', ⟨by first | omega | exact Nat.le_refl _⟩, ⟨by (with_reducible repeat (first | refine blk_drewN ?_ _ | refine blk_drew ?_ | refine blk_alloc ?_ _)); exact BK128.out⟩, ⟨by repeat (first | (with_reducible first | exact HB.out | apply below_alloc | apply pw_below_drewN | apply below_drew1 | refine below_set ?_ GE128.out) | exact HB.out)⟩⟩
  case rest =>
    clear HC2
    try clear c1
    try clear p2
    try clear c5
    try clear c5b0
    try clear c7
    try clear c7b0
    try clear c9
    try clear c9b0
    try clear c11
    try clear c11b0
    try clear c11b1
    try clear c13
    try clear c13b0
    try clear c13b1
    try clear c15
    try clear c15b0
    try clear c15b1
    try clear c15b2
    try clear hcz10_0
    try clear hcz10_1
    try clear hcz10_2
    try clear hcz10_3
    try clear hcz10_4
    try clear hcz10_5
    try clear hcz10_6
    try clear hcz12_0
    try clear hcz12_1
    try clear hcz12_2
    try clear hcz12_3
    try clear hcz12_4
    try clear hcz12_5
    try clear hcz12_6
    try clear hcz14_0
    try clear hcz14_1
    try clear hcz14_2
    try clear hcz14_3
    try clear hcz14_4
    try clear hcz14_5
    try clear hcz14_6
    try clear hcz16_0
    try clear hcz16_1
    try clear hcz16_2
    try clear hcz16_3
    try clear hcz16_4
    try clear hcz16_5
    try clear hcz16_6
    try clear hcz17_0
    try clear hcz17_1
    try clear hcz17_2
    try clear hcz17_3
    try clear hcz17_4
    try clear hcz17_5
    try clear hcz17_6
    try clear hcz4_0
    try clear hcz4_1
    try clear hcz4_2
    try clear hcz4_3
    try clear hcz4_4
    try clear hcz4_5
    try clear hcz4_6
    try clear hcz6_0
    try clear hcz6_1
    try clear hcz6_2
    try clear hcz6_3
    try clear hcz6_4
    try clear hcz6_5
    try clear hcz6_6
    try clear hcz8_0
    try clear hcz8_1
    try clear hcz8_2
    try clear hcz8_3
    try clear hcz8_4
    try clear hcz8_5
    try clear hcz8_6
    try clear hfz10_0
    try clear hfz10_1
    try clear hfz10_2
    try clear hfz10_3
    try clear hfz10_4
    try clear hfz10_5
    try clear hfz10_6
    try clear hfz12_0
    try clear hfz12_1
    try clear hfz12_2
    try clear hfz12_3
    try clear hfz12_4
    try clear hfz12_5
    try clear hfz12_6
    try clear hfz14_0
    try clear hfz14_1
    try clear hfz14_2
    try clear hfz14_3
    try clear hfz14_4
    try clear hfz14_5
    try clear hfz14_6
    try clear hfz16_0
    try clear hfz16_1
    try clear hfz16_2
    try clear hfz16_3
    try clear hfz16_4
    try clear hfz16_5
    try clear hfz16_6
    try clear hfz17_0
    try clear hfz17_1
    try clear hfz17_2
    try clear hfz17_3
    try clear hfz17_4
    try clear hfz17_5
    try clear hfz17_6
    try clear hfz4_0
    try clear hfz4_1
    try clear hfz4_2
    try clear hfz4_3
    try clear hfz4_4
    try clear hfz4_5
    try clear hfz4_6
    try clear hfz6_0
    try clear hfz6_1
    try clear hfz6_2
    try clear hfz6_3
    try clear hfz6_4
    try clear hfz6_5
    try clear hfz6_6
    try clear hfz8_0
    try clear hfz8_1
    try clear hfz8_2
    try clear hfz8_3
    try clear hfz8_4
    try clear hfz8_5
    try clear hfz8_6
    obtain ⟨kq, x45_1, rfl, HA, HJ1, BK128, HB⟩ := hcut
    cases kq with
    | zero => exact absurd HA.out (by simp [assizeref28_Check.j0])
    | succ kj1 =>
      have H := HA.out
      clear HA
      simp only [assizeref28_Check.j0] at H
      by_cases c18 : x45_1 = true
      · subst c18
        have H1 : (some 280) = some r := by rw [if_pos rfl] at H; exact H
        clear H
        have H := H1
        clear H1
        obtain rfl := Option.some.inj H
        go_wp2
        repeat (go_quiet (fail); try go_wp2)
        go_ret
        exact ⟨by first | rfl | (simp [errW_none, errW_some] <;> rfl) | (simp [*, errW_none, errW_some] <;> rfl), by repeat (first | (with_reducible first | exact HB.out | apply below_alloc | apply pw_below_drewN | apply below_drew1 | refine below_set ?_ GE128.out) | exact HB.out)⟩
      · replace c18 := Bool.eq_false_iff.mpr c18
        subst c18
        have H1 : (assizeref28_Check.l0 kj1 (l0_2.length : Int) 0 a0_0 a0_1 l0_2 l0_3 l0_4 a0_5 a0_6) = some r := by rw [if_neg (show ¬ (false = true) by decide)] at H; exact H
        clear H
        have H := H1
        clear H1
        have H' := Aside0.mk H
        clear H
        go_wp2
        repeat (go_quiet (fail); try go_wp2)
        go_loopg [4] kj1 (fun kq v4 w' => ∃ (x4_2 : Int), v4 = .int .i64 x4_2 ∧ Aside0 (assizeref28_Check.l0 kq (l0_2.length : Int) x4_2 a0_0 a0_1 l0_2 l0_3 l0_4 a0_5 a0_6 = some r) ∧ Aside0 (kq ≤ kj1) ∧ Aside0 (w'.heap[gb128]? = some (.cells #[.int .i64 a0_0, .int .i64 a0_1, (.slice A0_2 l0_2.length c0_2), (.slice A0_3 l0_3.length c0_3), (.slice A0_4 l0_4.length c0_4), .int .i64 a0_5, .int .i64 a0_6] 25 (0, 0))) ∧ Aside0 (Below w.heap.size w w'))
        case atStart => exact ⟨(0), (by first | rfl | (simp; done) | (simp [*]; done)), H', ⟨Nat.le_refl _⟩, ⟨by (with_reducible repeat (first | refine blk_drewN ?_ _ | refine blk_drew ?_ | refine blk_alloc ?_ _)); exact BK128.out⟩, ⟨by repeat (first | (with_reducible first | exact HB.out | apply below_alloc | apply pw_below_drewN | apply below_drew1 | refine below_set ?_ GE128.out) | exact HB.out)⟩⟩
        case round =>
          clear H'
          try clear c1
          try clear p2
          try clear c5
          try clear c5b0
          try clear c7
          try clear c7b0
          try clear c9
          try clear c9b0
          try clear c11
          try clear c11b0
          try clear c11b1
          try clear c13
          try clear c13b0
          try clear c13b1
          try clear c15
          try clear c15b0
          try clear c15b1
          try clear c15b2
          try clear c18
          try clear hcz10_0
          try clear hcz10_1
          try clear hcz10_2
          try clear hcz10_3
          try clear hcz10_4
          try clear hcz10_5
          try clear hcz10_6
          try clear hcz12_0
          try clear hcz12_1
          try clear hcz12_2
          try clear hcz12_3
          try clear hcz12_4
          try clear hcz12_5
          try clear hcz12_6
          try clear hcz14_0
          try clear hcz14_1
          try clear hcz14_2
          try clear hcz14_3
          try clear hcz14_4
          try clear hcz14_5
          try clear hcz14_6
          try clear hcz16_0
          try clear hcz16_1
          try clear hcz16_2
          try clear hcz16_3
          try clear hcz16_4
          try clear hcz16_5
          try clear hcz16_6
          try clear hcz17_0
          try clear hcz17_1
          try clear hcz17_2
          try clear hcz17_3
          try clear hcz17_4
          try clear hcz17_5
          try clear hcz17_6
          try clear hcz4_0
          try clear hcz4_1
          try clear hcz4_2
          try clear hcz4_3
          try clear hcz4_4
          try clear hcz4_5
          try clear hcz4_6
          try clear hcz6_0
          try clear hcz6_1
          try clear hcz6_2
          try clear hcz6_3
          try clear hcz6_4
          try clear hcz6_5
          try clear hcz6_6
          try clear hcz8_0
          try clear hcz8_1
          try clear hcz8_2
          try clear hcz8_3
          try clear hcz8_4
          try clear hcz8_5
          try clear hcz8_6
          try clear hfz10_0
          try clear hfz10_1
          try clear hfz10_2
          try clear hfz10_3
          try clear hfz10_4
          try clear hfz10_5
          try clear hfz10_6
          try clear hfz12_0
          try clear hfz12_1
          try clear hfz12_2
          try clear hfz12_3
          try clear hfz12_4
          try clear hfz12_5
          try clear hfz12_6
          try clear hfz14_0
          try clear hfz14_1
          try clear hfz14_2
          try clear hfz14_3
          try clear hfz14_4
          try clear hfz14_5
          try clear hfz14_6
          try clear hfz16_0
          try clear hfz16_1
          try clear hfz16_2
          try clear hfz16_3
          try clear hfz16_4
          try clear hfz16_5
          try clear hfz16_6
          try clear hfz17_0
          try clear hfz17_1
          try clear hfz17_2
          try clear hfz17_3
          try clear hfz17_4
          try clear hfz17_5
          try clear hfz17_6
          try clear hfz4_0
          try clear hfz4_1
          try clear hfz4_2
          try clear hfz4_3
          try clear hfz4_4
          try clear hfz4_5
          try clear hfz4_6
          try clear hfz6_0
          try clear hfz6_1
          try clear hfz6_2
          try clear hfz6_3
          try clear hfz6_4
          try clear hfz6_5
          try clear hfz6_6
          try clear hfz8_0
          try clear hfz8_1
          try clear hfz8_2
          try clear hfz8_3
          try clear hfz8_4
          try clear hfz8_5
          try clear hfz8_6
          try clear p2
          obtain ⟨x4_2, rfl, HA, HK2, BK128, HB⟩ := hrel
          cases gk with
          | zero => exact absurd HA.out (by simp [assizeref28_Check.l0])
          | succ k2 =>
            have H := HA.out
            clear HA
            simp only [assizeref28_Check.l0] at H
            by_cases c19 : x4_2 < (l0_2.length : Int)
            · rw [if_pos c19] at H
              have c19b0 : decide (x4_2 < (l0_2.length : Int)) = true := decide_eq_true c19
              clear c19
              by_cases c20 : 0 ≤ x4_2
              · rw [if_pos c20] at H
                have c20b0 : decide (0 ≤ x4_2) = true := decide_eq_true c20
                clear c20
                by_cases c21 : x4_2 < (l0_2.length : Int)
                · rw [if_pos c21] at H
                  have c21b0 : decide (x4_2 < (l0_2.length : Int)) = true := decide_eq_true c21
                  clear c21
                  by_cases c22 : (rd l0_2 x4_2) < 0
                  · rw [if_pos c22] at H
                    have c22b0 : decide ((rd l0_2 x4_2) < 0) = true := decide_eq_true c22
                    clear c22
                    obtain rfl := Option.some.inj H
                    have hcz23_0 : wr.cell? ⟨gb128, 0, none⟩ = some (.int .i64 a0_0) := (blk_cell BK128.out 0).trans rfl
                    have hcz23_1 : wr.cell? ⟨gb128, 1, none⟩ = some (.int .i64 a0_1) := (blk_cell BK128.out 1).trans rfl
                    have hcz23_2 : wr.cell? ⟨gb128, 2, none⟩ = some (.slice A0_2 l0_2.length c0_2) := (blk_cell BK128.out 2).trans rfl
                    have hcz23_3 : wr.cell? ⟨gb128, 3, none⟩ = some (.slice A0_3 l0_3.length c0_3) := (blk_cell BK128.out 3).trans rfl
                    have hcz23_4 : wr.cell? ⟨gb128, 4, none⟩ = some (.slice A0_4 l0_4.length c0_4) := (blk_cell BK128.out 4).trans rfl
                    have hcz23_5 : wr.cell? ⟨gb128, 5, none⟩ = some (.int .i64 a0_5) := (blk_cell BK128.out 5).trans rfl
                    have hcz23_6 : wr.cell? ⟨gb128, 6, none⟩ = some (.int .i64 a0_6) := (blk_cell BK128.out 6).trans rfl
                    have hfz23_0 := blk_frozen BK128.out 0
                    have hfz23_1 := blk_frozen BK128.out 1
                    have hfz23_2 := blk_frozen BK128.out 2
                    have hfz23_3 := blk_frozen BK128.out 3
                    have hfz23_4 := blk_frozen BK128.out 4
                    have hfz23_5 := blk_frozen BK128.out 5
                    have hfz23_6 := blk_frozen BK128.out 6
                    have p129 : 0 ≤ (x4_2 : Int) := of_decide_eq_true (by first | (with_reducible assumption) | assumption)
                    have q129 : x4_2 < (l0_2.length : Int) := of_decide_eq_true (by first | (with_reducible assumption) | assumption)
                    obtain ⟨ad129, e129, hx129_0⟩ := Kd.at_int HR0_2.out x4_2 p129 q129
                    cases e129
                    replace hx129_0 := (HB.out.cell (World.block_lt_of_cell? w _ hx129_0)).trans hx129_0
                    replace p129 := eq_true p129
                    replace q129 := eq_true q129
                    go_wp2
                    repeat (go_quiet (fail); try go_wp2)
                    go_ret
                    exact ⟨by first | rfl | (simp [errW_none, errW_some] <;> rfl) | (simp [*, errW_none, errW_some] <;> rfl), by repeat (first | (with_reducible first | exact HB.out | apply below_alloc | apply pw_below_drewN | apply below_drew1 | refine below_set ?_ GE128.out) | exact HB.out)⟩
                  · rw [if_neg c22] at H
                    have c22b0 : decide ((rd l0_2 x4_2) < 0) = false := decide_eq_false c22
                    clear c22
                    by_cases c24 : (rd l0_2 x4_2) ≥ 192
                    · rw [if_pos c24] at H
                      have c24b0 : decide (192 ≤ (rd l0_2 x4_2)) = true := decide_eq_true c24
                      clear c24
                      obtain rfl := Option.some.inj H
                      have hcz25_0 : wr.cell? ⟨gb128, 0, none⟩ = some (.int .i64 a0_0) := (blk_cell BK128.out 0).trans rfl
                      have hcz25_1 : wr.cell? ⟨gb128, 1, none⟩ = some (.int .i64 a0_1) := (blk_cell BK128.out 1).trans rfl
                      have hcz25_2 : wr.cell? ⟨gb128, 2, none⟩ = some (.slice A0_2 l0_2.length c0_2) := (blk_cell BK128.out 2).trans rfl
                      have hcz25_3 : wr.cell? ⟨gb128, 3, none⟩ = some (.slice A0_3 l0_3.length c0_3) := (blk_cell BK128.out 3).trans rfl
                      have hcz25_4 : wr.cell? ⟨gb128, 4, none⟩ = some (.slice A0_4 l0_4.length c0_4) := (blk_cell BK128.out 4).trans rfl
                      have hcz25_5 : wr.cell? ⟨gb128, 5, none⟩ = some (.int .i64 a0_5) := (blk_cell BK128.out 5).trans rfl
                      have hcz25_6 : wr.cell? ⟨gb128, 6, none⟩ = some (.int .i64 a0_6) := (blk_cell BK128.out 6).trans rfl
                      have hfz25_0 := blk_frozen BK128.out 0
                      have hfz25_1 := blk_frozen BK128.out 1
                      have hfz25_2 := blk_frozen BK128.out 2
                      have hfz25_3 := blk_frozen BK128.out 3
                      have hfz25_4 := blk_frozen BK128.out 4
                      have hfz25_5 := blk_frozen BK128.out 5
                      have hfz25_6 := blk_frozen BK128.out 6
                      have p129 : 0 ≤ (x4_2 : Int) := of_decide_eq_true (by first | (with_reducible assumption) | assumption)
                      have q129 : x4_2 < (l0_2.length : Int) := of_decide_eq_true (by first | (with_reducible assumption) | assumption)
                      obtain ⟨ad129, e129, hx129_0⟩ := Kd.at_int HR0_2.out x4_2 p129 q129
                      cases e129
                      replace hx129_0 := (HB.out.cell (World.block_lt_of_cell? w _ hx129_0)).trans hx129_0
                      replace p129 := eq_true p129
                      replace q129 := eq_true q129
                      have p130 : 0 ≤ (x4_2 : Int) := of_decide_eq_true (by first | (with_reducible assumption) | assumption)
                      have q130 : x4_2 < (l0_2.length : Int) := of_decide_eq_true (by first | (with_reducible assumption) | assumption)
                      obtain ⟨ad130, e130, hx130_0⟩ := Kd.at_int HR0_2.out x4_2 p130 q130
                      obtain rfl : ad129 = ad130 := (by injection e130)
                      replace hx130_0 := (HB.out.cell (World.block_lt_of_cell? w _ hx130_0)).trans hx130_0
                      replace p130 := eq_true p130
                      replace q130 := eq_true q130
                      go_wp2
                      repeat (go_quiet (fail); try go_wp2)
                      go_ret
                      exact ⟨by first | rfl | (simp [errW_none, errW_some] <;> rfl) | (simp [*, errW_none, errW_some] <;> rfl), by repeat (first | (with_reducible first | exact HB.out | apply below_alloc | apply pw_below_drewN | apply below_drew1 | refine below_set ?_ GE128.out) | exact HB.out)⟩
                    · rw [if_neg c24] at H
                      have c24b0 : decide (192 ≤ (rd l0_2 x4_2)) = false := decide_eq_false c24
                      clear c24
                      by_cases c26 : x4_2 > 0
                      · rw [if_pos c26] at H
                        have c26b0 : decide (0 < x4_2) = true := decide_eq_true c26
                        clear c26
                        obtain ⟨ji27, hji27⟩ : ∃ j_ : Int, (wrap64 (x4_2 - 1)) = j_ := ⟨_, rfl⟩
                        replace H : (if 0 ≤ (ji27) then (if (ji27) < (l0_2.length : Int) then (if (rd l0_2 (ji27)) ≥ (rd l0_2 x4_2) then (some 280) else (if x4_2 < (l0_3.length : Int) then (if (rd l0_3 x4_2) < (-99999) then (some 280) else (if (rd l0_3 x4_2) > 99999 then (some 280) else (assizeref28_Check.l0 k2 (l0_2.length : Int) (wrap64 (x4_2 + 1)) a0_0 a0_1 l0_2 l0_3 l0_4 a0_5 a0_6))) else (none))) else (none)) else (none)) = some r := by first | (rw [hji27] at H; exact H) | (simp only [hji27] at H ⊢; exact H)
                        have hji27w : (IntKind.i64.wrap (x4_2 - 1)) = ji27 := (i64_w _).trans hji27
                        by_cases c28 : 0 ≤ (ji27)
                        · rw [if_pos c28] at H
                          have c28b0 : decide (0 ≤ (ji27)) = true := decide_eq_true c28
                          clear c28
                          by_cases c29 : (ji27) < (l0_2.length : Int)
                          · rw [if_pos c29] at H
                            have c29b0 : decide ((ji27) < (l0_2.length : Int)) = true := decide_eq_true c29
                            clear c29
                            by_cases c30 : (rd l0_2 (ji27)) ≥ (rd l0_2 x4_2)
                            · rw [if_pos c30] at H
                              have c30b0 : decide ((rd l0_2 x4_2) ≤ (rd l0_2 (ji27))) = true := decide_eq_true c30
                              clear c30
                              obtain rfl := Option.some.inj H
                              have hcz31_0 : wr.cell? ⟨gb128, 0, none⟩ = some (.int .i64 a0_0) := (blk_cell BK128.out 0).trans rfl
                              have hcz31_1 : wr.cell? ⟨gb128, 1, none⟩ = some (.int .i64 a0_1) := (blk_cell BK128.out 1).trans rfl
                              have hcz31_2 : wr.cell? ⟨gb128, 2, none⟩ = some (.slice A0_2 l0_2.length c0_2) := (blk_cell BK128.out 2).trans rfl
                              have hcz31_3 : wr.cell? ⟨gb128, 3, none⟩ = some (.slice A0_3 l0_3.length c0_3) := (blk_cell BK128.out 3).trans rfl
                              have hcz31_4 : wr.cell? ⟨gb128, 4, none⟩ = some (.slice A0_4 l0_4.length c0_4) := (blk_cell BK128.out 4).trans rfl
                              have hcz31_5 : wr.cell? ⟨gb128, 5, none⟩ = some (.int .i64 a0_5) := (blk_cell BK128.out 5).trans rfl
                              have hcz31_6 : wr.cell? ⟨gb128, 6, none⟩ = some (.int .i64 a0_6) := (blk_cell BK128.out 6).trans rfl
                              have hfz31_0 := blk_frozen BK128.out 0
                              have hfz31_1 := blk_frozen BK128.out 1
                              have hfz31_2 := blk_frozen BK128.out 2
                              have hfz31_3 := blk_frozen BK128.out 3
                              have hfz31_4 := blk_frozen BK128.out 4
                              have hfz31_5 := blk_frozen BK128.out 5
                              have hfz31_6 := blk_frozen BK128.out 6
                              have p129 : 0 ≤ (x4_2 : Int) := of_decide_eq_true (by first | (with_reducible assumption) | assumption)
                              have q129 : x4_2 < (l0_2.length : Int) := of_decide_eq_true (by first | (with_reducible assumption) | assumption)
                              obtain ⟨ad129, e129, hx129_0⟩ := Kd.at_int HR0_2.out x4_2 p129 q129
                              cases e129
                              replace hx129_0 := (HB.out.cell (World.block_lt_of_cell? w _ hx129_0)).trans hx129_0
                              replace p129 := eq_true p129
                              replace q129 := eq_true q129
                              have p130 : 0 ≤ (x4_2 : Int) := of_decide_eq_true (by first | (with_reducible assumption) | assumption)
                              have q130 : x4_2 < (l0_2.length : Int) := of_decide_eq_true (by first | (with_reducible assumption) | assumption)
                              obtain ⟨ad130, e130, hx130_0⟩ := Kd.at_int HR0_2.out x4_2 p130 q130
                              obtain rfl : ad129 = ad130 := (by injection e130)
                              replace hx130_0 := (HB.out.cell (World.block_lt_of_cell? w _ hx130_0)).trans hx130_0
                              replace p130 := eq_true p130
                              replace q130 := eq_true q130
                              have p131 : 0 ≤ ((ji27) : Int) := of_decide_eq_true (by first | (with_reducible assumption) | assumption)
                              have q131 : (ji27) < (l0_2.length : Int) := of_decide_eq_true (by first | (with_reducible assumption) | assumption)
                              obtain ⟨ad131, e131, hx131_0⟩ := Kd.at_int HR0_2.out (ji27) p131 q131
                              obtain rfl : ad129 = ad131 := (by injection e131)
                              replace hx131_0 := (HB.out.cell (World.block_lt_of_cell? w _ hx131_0)).trans hx131_0
                              replace p131 := eq_true p131
                              replace q131 := eq_true q131
                              have p132 : 0 ≤ (x4_2 : Int) := of_decide_eq_true (by first | (with_reducible assumption) | assumption)
                              have q132 : x4_2 < (l0_2.length : Int) := of_decide_eq_true (by first | (with_reducible assumption) | assumption)
                              obtain ⟨ad132, e132, hx132_0⟩ := Kd.at_int HR0_2.out x4_2 p132 q132
                              obtain rfl : ad129 = ad132 := (by injection e132)
                              replace hx132_0 := (HB.out.cell (World.block_lt_of_cell? w _ hx132_0)).trans hx132_0
                              replace p132 := eq_true p132
                              replace q132 := eq_true q132
                              go_wp2
                              repeat (go_quiet (fail); try go_wp2)
                              go_ret
                              exact ⟨by first | rfl | (simp [errW_none, errW_some] <;> rfl) | (simp only [← hji27]; first | rfl | (simp [errW_none, errW_some] <;> rfl)) | (simp [*, errW_none, errW_some] <;> rfl), by repeat (first | (with_reducible first | exact HB.out | apply below_alloc | apply pw_below_drewN | apply below_drew1 | refine below_set ?_ GE128.out) | exact HB.out)⟩
                            · rw [if_neg c30] at H
                              have c30b0 : decide ((rd l0_2 x4_2) ≤ (rd l0_2 (ji27))) = false := decide_eq_false c30
                              clear c30
                              by_cases c32 : x4_2 < (l0_3.length : Int)
                              · rw [if_pos c32] at H
                                have c32b0 : decide (x4_2 < (l0_3.length : Int)) = true := decide_eq_true c32
                                clear c32
                                by_cases c33 : (rd l0_3 x4_2) < (-99999)
                                · rw [if_pos c33] at H
                                  have c33b0 : decide ((rd l0_3 x4_2) < (-99999)) = true := decide_eq_true c33
                                  clear c33
                                  obtain rfl := Option.some.inj H
                                  have hcz34_0 : wr.cell? ⟨gb128, 0, none⟩ = some (.int .i64 a0_0) := (blk_cell BK128.out 0).trans rfl
                                  have hcz34_1 : wr.cell? ⟨gb128, 1, none⟩ = some (.int .i64 a0_1) := (blk_cell BK128.out 1).trans rfl
                                  have hcz34_2 : wr.cell? ⟨gb128, 2, none⟩ = some (.slice A0_2 l0_2.length c0_2) := (blk_cell BK128.out 2).trans rfl
                                  have hcz34_3 : wr.cell? ⟨gb128, 3, none⟩ = some (.slice A0_3 l0_3.length c0_3) := (blk_cell BK128.out 3).trans rfl
                                  have hcz34_4 : wr.cell? ⟨gb128, 4, none⟩ = some (.slice A0_4 l0_4.length c0_4) := (blk_cell BK128.out 4).trans rfl
                                  have hcz34_5 : wr.cell? ⟨gb128, 5, none⟩ = some (.int .i64 a0_5) := (blk_cell BK128.out 5).trans rfl
                                  have hcz34_6 : wr.cell? ⟨gb128, 6, none⟩ = some (.int .i64 a0_6) := (blk_cell BK128.out 6).trans rfl
                                  have hfz34_0 := blk_frozen BK128.out 0
                                  have hfz34_1 := blk_frozen BK128.out 1
                                  have hfz34_2 := blk_frozen BK128.out 2
                                  have hfz34_3 := blk_frozen BK128.out 3
                                  have hfz34_4 := blk_frozen BK128.out 4
                                  have hfz34_5 := blk_frozen BK128.out 5
                                  have hfz34_6 := blk_frozen BK128.out 6
                                  have p129 : 0 ≤ (x4_2 : Int) := of_decide_eq_true (by first | (with_reducible assumption) | assumption)
                                  have q129 : x4_2 < (l0_2.length : Int) := of_decide_eq_true (by first | (with_reducible assumption) | assumption)
                                  obtain ⟨ad129, e129, hx129_0⟩ := Kd.at_int HR0_2.out x4_2 p129 q129
                                  cases e129
                                  replace hx129_0 := (HB.out.cell (World.block_lt_of_cell? w _ hx129_0)).trans hx129_0
                                  replace p129 := eq_true p129
                                  replace q129 := eq_true q129
                                  have p130 : 0 ≤ (x4_2 : Int) := of_decide_eq_true (by first | (with_reducible assumption) | assumption)
                                  have q130 : x4_2 < (l0_2.length : Int) := of_decide_eq_true (by first | (with_reducible assumption) | assumption)
                                  obtain ⟨ad130, e130, hx130_0⟩ := Kd.at_int HR0_2.out x4_2 p130 q130
                                  obtain rfl : ad129 = ad130 := (by injection e130)
                                  replace hx130_0 := (HB.out.cell (World.block_lt_of_cell? w _ hx130_0)).trans hx130_0
                                  replace p130 := eq_true p130
                                  replace q130 := eq_true q130
                                  have p131 : 0 ≤ ((ji27) : Int) := of_decide_eq_true (by first | (with_reducible assumption) | assumption)
                                  have q131 : (ji27) < (l0_2.length : Int) := of_decide_eq_true (by first | (with_reducible assumption) | assumption)
                                  obtain ⟨ad131, e131, hx131_0⟩ := Kd.at_int HR0_2.out (ji27) p131 q131
                                  obtain rfl : ad129 = ad131 := (by injection e131)
                                  replace hx131_0 := (HB.out.cell (World.block_lt_of_cell? w _ hx131_0)).trans hx131_0
                                  replace p131 := eq_true p131
                                  replace q131 := eq_true q131
                                  have p132 : 0 ≤ (x4_2 : Int) := of_decide_eq_true (by first | (with_reducible assumption) | assumption)
                                  have q132 : x4_2 < (l0_2.length : Int) := of_decide_eq_true (by first | (with_reducible assumption) | assumption)
                                  obtain ⟨ad132, e132, hx132_0⟩ := Kd.at_int HR0_2.out x4_2 p132 q132
                                  obtain rfl : ad129 = ad132 := (by injection e132)
                                  replace hx132_0 := (HB.out.cell (World.block_lt_of_cell? w _ hx132_0)).trans hx132_0
                                  replace p132 := eq_true p132
                                  replace q132 := eq_true q132
                                  have p133 : 0 ≤ (x4_2 : Int) := of_decide_eq_true (by first | (with_reducible assumption) | assumption)
                                  have q133 : x4_2 < (l0_3.length : Int) := of_decide_eq_true (by first | (with_reducible assumption) | assumption)
                                  obtain ⟨ad133, e133, hx133_0⟩ := Kd.at_int HR0_3.out x4_2 p133 q133
                                  cases e133
                                  replace hx133_0 := (HB.out.cell (World.block_lt_of_cell? w _ hx133_0)).trans hx133_0
                                  replace p133 := eq_true p133
                                  replace q133 := eq_true q133
                                  go_wp2
                                  repeat (go_quiet (fail); try go_wp2)
                                  go_ret
                                  exact ⟨by first | rfl | (simp [errW_none, errW_some] <;> rfl) | (simp only [← hji27]; first | rfl | (simp [errW_none, errW_some] <;> rfl)) | (simp [*, errW_none, errW_some] <;> rfl), by repeat (first | (with_reducible first | exact HB.out | apply below_alloc | apply pw_below_drewN | apply below_drew1 | refine below_set ?_ GE128.out) | exact HB.out)⟩
                                · rw [if_neg c33] at H
                                  have c33b0 : decide ((rd l0_3 x4_2) < (-99999)) = false := decide_eq_false c33
                                  clear c33
                                  by_cases c35 : (rd l0_3 x4_2) > 99999
                                  · rw [if_pos c35] at H
                                    have c35b0 : decide (99999 < (rd l0_3 x4_2)) = true := decide_eq_true c35
                                    clear c35
                                    obtain rfl := Option.some.inj H
                                    have hcz36_0 : wr.cell? ⟨gb128, 0, none⟩ = some (.int .i64 a0_0) := (blk_cell BK128.out 0).trans rfl
                                    have hcz36_1 : wr.cell? ⟨gb128, 1, none⟩ = some (.int .i64 a0_1) := (blk_cell BK128.out 1).trans rfl
                                    have hcz36_2 : wr.cell? ⟨gb128, 2, none⟩ = some (.slice A0_2 l0_2.length c0_2) := (blk_cell BK128.out 2).trans rfl
                                    have hcz36_3 : wr.cell? ⟨gb128, 3, none⟩ = some (.slice A0_3 l0_3.length c0_3) := (blk_cell BK128.out 3).trans rfl
                                    have hcz36_4 : wr.cell? ⟨gb128, 4, none⟩ = some (.slice A0_4 l0_4.length c0_4) := (blk_cell BK128.out 4).trans rfl
                                    have hcz36_5 : wr.cell? ⟨gb128, 5, none⟩ = some (.int .i64 a0_5) := (blk_cell BK128.out 5).trans rfl
                                    have hcz36_6 : wr.cell? ⟨gb128, 6, none⟩ = some (.int .i64 a0_6) := (blk_cell BK128.out 6).trans rfl
                                    have hfz36_0 := blk_frozen BK128.out 0
                                    have hfz36_1 := blk_frozen BK128.out 1
                                    have hfz36_2 := blk_frozen BK128.out 2
                                    have hfz36_3 := blk_frozen BK128.out 3
                                    have hfz36_4 := blk_frozen BK128.out 4
                                    have hfz36_5 := blk_frozen BK128.out 5
                                    have hfz36_6 := blk_frozen BK128.out 6
                                    have p129 : 0 ≤ (x4_2 : Int) := of_decide_eq_true (by first | (with_reducible assumption) | assumption)
                                    have q129 : x4_2 < (l0_2.length : Int) := of_decide_eq_true (by first | (with_reducible assumption) | assumption)
                                    obtain ⟨ad129, e129, hx129_0⟩ := Kd.at_int HR0_2.out x4_2 p129 q129
                                    cases e129
                                    replace hx129_0 := (HB.out.cell (World.block_lt_of_cell? w _ hx129_0)).trans hx129_0
                                    replace p129 := eq_true p129
                                    replace q129 := eq_true q129
                                    have p130 : 0 ≤ (x4_2 : Int) := of_decide_eq_true (by first | (with_reducible assumption) | assumption)
                                    have q130 : x4_2 < (l0_2.length : Int) := of_decide_eq_true (by first | (with_reducible assumption) | assumption)
                                    obtain ⟨ad130, e130, hx130_0⟩ := Kd.at_int HR0_2.out x4_2 p130 q130
                                    obtain rfl : ad129 = ad130 := (by injection e130)
                                    replace hx130_0 := (HB.out.cell (World.block_lt_of_cell? w _ hx130_0)).trans hx130_0
                                    replace p130 := eq_true p130
                                    replace q130 := eq_true q130
                                    have p131 : 0 ≤ ((ji27) : Int) := of_decide_eq_true (by first | (with_reducible assumption) | assumption)
                                    have q131 : (ji27) < (l0_2.length : Int) := of_decide_eq_true (by first | (with_reducible assumption) | assumption)
                                    obtain ⟨ad131, e131, hx131_0⟩ := Kd.at_int HR0_2.out (ji27) p131 q131
                                    obtain rfl : ad129 = ad131 := (by injection e131)
                                    replace hx131_0 := (HB.out.cell (World.block_lt_of_cell? w _ hx131_0)).trans hx131_0
                                    replace p131 := eq_true p131
                                    replace q131 := eq_true q131
                                    have p132 : 0 ≤ (x4_2 : Int) := of_decide_eq_true (by first | (with_reducible assumption) | assumption)
                                    have q132 : x4_2 < (l0_2.length : Int) := of_decide_eq_true (by first | (with_reducible assumption) | assumption)
                                    obtain ⟨ad132, e132, hx132_0⟩ := Kd.at_int HR0_2.out x4_2 p132 q132
                                    obtain rfl : ad129 = ad132 := (by injection e132)
                                    replace hx132_0 := (HB.out.cell (World.block_lt_of_cell? w _ hx132_0)).trans hx132_0
                                    replace p132 := eq_true p132
                                    replace q132 := eq_true q132
                                    have p133 : 0 ≤ (x4_2 : Int) := of_decide_eq_true (by first | (with_reducible assumption) | assumption)
                                    have q133 : x4_2 < (l0_3.length : Int) := of_decide_eq_true (by first | (with_reducible assumption) | assumption)
                                    obtain ⟨ad133, e133, hx133_0⟩ := Kd.at_int HR0_3.out x4_2 p133 q133
                                    cases e133
                                    replace hx133_0 := (HB.out.cell (World.block_lt_of_cell? w _ hx133_0)).trans hx133_0
                                    replace p133 := eq_true p133
                                    replace q133 := eq_true q133
                                    have p134 : 0 ≤ (x4_2 : Int) := of_decide_eq_true (by first | (with_reducible assumption) | assumption)
                                    have q134 : x4_2 < (l0_3.length : Int) := of_decide_eq_true (by first | (with_reducible assumption) | assumption)
                                    obtain ⟨ad134, e134, hx134_0⟩ := Kd.at_int HR0_3.out x4_2 p134 q134
                                    obtain rfl : ad133 = ad134 := (by injection e134)
                                    replace hx134_0 := (HB.out.cell (World.block_lt_of_cell? w _ hx134_0)).trans hx134_0
                                    replace p134 := eq_true p134
                                    replace q134 := eq_true q134
                                    go_wp2
                                    repeat (go_quiet (fail); try go_wp2)
                                    go_ret
                                    exact ⟨by first | rfl | (simp [errW_none, errW_some] <;> rfl) | (simp only [← hji27]; first | rfl | (simp [errW_none, errW_some] <;> rfl)) | (simp [*, errW_none, errW_some] <;> rfl), by repeat (first | (with_reducible first | exact HB.out | apply below_alloc | apply pw_below_drewN | apply below_drew1 | refine below_set ?_ GE128.out) | exact HB.out)⟩
                                  · rw [if_neg c35] at H
                                    have c35b0 : decide (99999 < (rd l0_3 x4_2)) = false := decide_eq_false c35
                                    clear c35
                                    have H' := Aside0.mk H
                                    clear H
                                    have hcz37_0 : wr.cell? ⟨gb128, 0, none⟩ = some (.int .i64 a0_0) := (blk_cell BK128.out 0).trans rfl
                                    have hcz37_1 : wr.cell? ⟨gb128, 1, none⟩ = some (.int .i64 a0_1) := (blk_cell BK128.out 1).trans rfl
                                    have hcz37_2 : wr.cell? ⟨gb128, 2, none⟩ = some (.slice A0_2 l0_2.length c0_2) := (blk_cell BK128.out 2).trans rfl
                                    have hcz37_3 : wr.cell? ⟨gb128, 3, none⟩ = some (.slice A0_3 l0_3.length c0_3) := (blk_cell BK128.out 3).trans rfl
                                    have hcz37_4 : wr.cell? ⟨gb128, 4, none⟩ = some (.slice A0_4 l0_4.length c0_4) := (blk_cell BK128.out 4).trans rfl
                                    have hcz37_5 : wr.cell? ⟨gb128, 5, none⟩ = some (.int .i64 a0_5) := (blk_cell BK128.out 5).trans rfl
                                    have hcz37_6 : wr.cell? ⟨gb128, 6, none⟩ = some (.int .i64 a0_6) := (blk_cell BK128.out 6).trans rfl
                                    have hfz37_0 := blk_frozen BK128.out 0
                                    have hfz37_1 := blk_frozen BK128.out 1
                                    have hfz37_2 := blk_frozen BK128.out 2
                                    have hfz37_3 := blk_frozen BK128.out 3
                                    have hfz37_4 := blk_frozen BK128.out 4
                                    have hfz37_5 := blk_frozen BK128.out 5
                                    have hfz37_6 := blk_frozen BK128.out 6
                                    have p129 : 0 ≤ (x4_2 : Int) := of_decide_eq_true (by first | (with_reducible assumption) | assumption)
                                    have q129 : x4_2 < (l0_2.length : Int) := of_decide_eq_true (by first | (with_reducible assumption) | assumption)
                                    obtain ⟨ad129, e129, hx129_0⟩ := Kd.at_int HR0_2.out x4_2 p129 q129
                                    cases e129
                                    replace hx129_0 := (HB.out.cell (World.block_lt_of_cell? w _ hx129_0)).trans hx129_0
                                    replace p129 := eq_true p129
                                    replace q129 := eq_true q129
                                    have p130 : 0 ≤ (x4_2 : Int) := of_decide_eq_true (by first | (with_reducible assumption) | assumption)
                                    have q130 : x4_2 < (l0_2.length : Int) := of_decide_eq_true (by first | (with_reducible assumption) | assumption)
                                    obtain ⟨ad130, e130, hx130_0⟩ := Kd.at_int HR0_2.out x4_2 p130 q130
                                    obtain rfl : ad129 = ad130 := (by injection e130)
                                    replace hx130_0 := (HB.out.cell (World.block_lt_of_cell? w _ hx130_0)).trans hx130_0
                                    replace p130 := eq_true p130
                                    replace q130 := eq_true q130
                                    have p131 : 0 ≤ ((ji27) : Int) := of_decide_eq_true (by first | (with_reducible assumption) | assumption)
                                    have q131 : (ji27) < (l0_2.length : Int) := of_decide_eq_true (by first | (with_reducible assumption) | assumption)
                                    obtain ⟨ad131, e131, hx131_0⟩ := Kd.at_int HR0_2.out (ji27) p131 q131
                                    obtain rfl : ad129 = ad131 := (by injection e131)
                                    replace hx131_0 := (HB.out.cell (World.block_lt_of_cell? w _ hx131_0)).trans hx131_0
                                    replace p131 := eq_true p131
                                    replace q131 := eq_true q131
                                    have p132 : 0 ≤ (x4_2 : Int) := of_decide_eq_true (by first | (with_reducible assumption) | assumption)
                                    have q132 : x4_2 < (l0_2.length : Int) := of_decide_eq_true (by first | (with_reducible assumption) | assumption)
                                    obtain ⟨ad132, e132, hx132_0⟩ := Kd.at_int HR0_2.out x4_2 p132 q132
                                    obtain rfl : ad129 = ad132 := (by injection e132)
                                    replace hx132_0 := (HB.out.cell (World.block_lt_of_cell? w _ hx132_0)).trans hx132_0
                                    replace p132 := eq_true p132
                                    replace q132 := eq_true q132
                                    have p133 : 0 ≤ (x4_2 : Int) := of_decide_eq_true (by first | (with_reducible assumption) | assumption)
                                    have q133 : x4_2 < (l0_3.length : Int) := of_decide_eq_true (by first | (with_reducible assumption) | assumption)
                                    obtain ⟨ad133, e133, hx133_0⟩ := Kd.at_int HR0_3.out x4_2 p133 q133
                                    cases e133
                                    replace hx133_0 := (HB.out.cell (World.block_lt_of_cell? w _ hx133_0)).trans hx133_0
                                    replace p133 := eq_true p133
                                    replace q133 := eq_true q133
                                    have p134 : 0 ≤ (x4_2 : Int) := of_decide_eq_true (by first | (with_reducible assumption) | assumption)
                                    have q134 : x4_2 < (l0_3.length : Int) := of_decide_eq_true (by first | (with_reducible assumption) | assumption)
                                    obtain ⟨ad134, e134, hx134_0⟩ := Kd.at_int HR0_3.out x4_2 p134 q134
                                    obtain rfl : ad133 = ad134 := (by injection e134)
                                    replace hx134_0 := (HB.out.cell (World.block_lt_of_cell? w _ hx134_0)).trans hx134_0
                                    replace p134 := eq_true p134
                                    replace q134 := eq_true q134
                                    go_wp2
                                    repeat (go_quiet (fail); try go_wp2)
                                    go_roundg k2
                                    case measure => have := HJ1.out; have := HK2.out; omega
                                    case rel => exact ⟨(wrap64 (x4_2 + 1)), (by first | rfl | (simp; done) | (simp [*]; done)), H', ⟨by have := HJ1.out; have := HK2.out; omega⟩, ⟨by (with_reducible repeat (first | refine blk_drewN ?_ _ | refine blk_drew ?_ | refine blk_alloc ?_ _)); exact BK128.out⟩, ⟨by repeat (first | (with_reducible first | exact HB.out | apply below_alloc | apply pw_below_drewN | apply below_drew1 | refine below_set ?_ GE128.out) | exact HB.out)⟩⟩
                              · rw [if_neg c32] at H
                                exact absurd H (by simp)
                          · rw [if_neg c29] at H
                            exact absurd H (by simp)
                        · rw [if_neg c28] at H
                          exact absurd H (by simp)
                      · rw [if_neg c26] at H
                        have c26b0 : decide (0 < x4_2) = false := decide_eq_false c26
                        clear c26
                        by_cases c38 : x4_2 < (l0_3.length : Int)
                        · rw [if_pos c38] at H
                          have c38b0 : decide (x4_2 < (l0_3.length : Int)) = true := decide_eq_true c38
                          clear c38
                          by_cases c39 : (rd l0_3 x4_2) < (-99999)
                          · rw [if_pos c39] at H
                            have c39b0 : decide ((rd l0_3 x4_2) < (-99999)) = true := decide_eq_true c39
                            clear c39
                            obtain rfl := Option.some.inj H
                            have hcz40_0 : wr.cell? ⟨gb128, 0, none⟩ = some (.int .i64 a0_0) := (blk_cell BK128.out 0).trans rfl
                            have hcz40_1 : wr.cell? ⟨gb128, 1, none⟩ = some (.int .i64 a0_1) := (blk_cell BK128.out 1).trans rfl
                            have hcz40_2 : wr.cell? ⟨gb128, 2, none⟩ = some (.slice A0_2 l0_2.length c0_2) := (blk_cell BK128.out 2).trans rfl
                            have hcz40_3 : wr.cell? ⟨gb128, 3, none⟩ = some (.slice A0_3 l0_3.length c0_3) := (blk_cell BK128.out 3).trans rfl
                            have hcz40_4 : wr.cell? ⟨gb128, 4, none⟩ = some (.slice A0_4 l0_4.length c0_4) := (blk_cell BK128.out 4).trans rfl
                            have hcz40_5 : wr.cell? ⟨gb128, 5, none⟩ = some (.int .i64 a0_5) := (blk_cell BK128.out 5).trans rfl
                            have hcz40_6 : wr.cell? ⟨gb128, 6, none⟩ = some (.int .i64 a0_6) := (blk_cell BK128.out 6).trans rfl
                            have hfz40_0 := blk_frozen BK128.out 0
                            have hfz40_1 := blk_frozen BK128.out 1
                            have hfz40_2 := blk_frozen BK128.out 2
                            have hfz40_3 := blk_frozen BK128.out 3
                            have hfz40_4 := blk_frozen BK128.out 4
                            have hfz40_5 := blk_frozen BK128.out 5
                            have hfz40_6 := blk_frozen BK128.out 6
                            have p129 : 0 ≤ (x4_2 : Int) := of_decide_eq_true (by first | (with_reducible assumption) | assumption)
                            have q129 : x4_2 < (l0_2.length : Int) := of_decide_eq_true (by first | (with_reducible assumption) | assumption)
                            obtain ⟨ad129, e129, hx129_0⟩ := Kd.at_int HR0_2.out x4_2 p129 q129
                            cases e129
                            replace hx129_0 := (HB.out.cell (World.block_lt_of_cell? w _ hx129_0)).trans hx129_0
                            replace p129 := eq_true p129
                            replace q129 := eq_true q129
                            have p130 : 0 ≤ (x4_2 : Int) := of_decide_eq_true (by first | (with_reducible assumption) | assumption)
                            have q130 : x4_2 < (l0_2.length : Int) := of_decide_eq_true (by first | (with_reducible assumption) | assumption)
                            obtain ⟨ad130, e130, hx130_0⟩ := Kd.at_int HR0_2.out x4_2 p130 q130
                            obtain rfl : ad129 = ad130 := (by injection e130)
                            replace hx130_0 := (HB.out.cell (World.block_lt_of_cell? w _ hx130_0)).trans hx130_0
                            replace p130 := eq_true p130
                            replace q130 := eq_true q130
                            have p135 : 0 ≤ (x4_2 : Int) := of_decide_eq_true (by first | (with_reducible assumption) | assumption)
                            have q135 : x4_2 < (l0_3.length : Int) := of_decide_eq_true (by first | (with_reducible assumption) | assumption)
                            obtain ⟨ad135, e135, hx135_0⟩ := Kd.at_int HR0_3.out x4_2 p135 q135
                            cases e135
                            replace hx135_0 := (HB.out.cell (World.block_lt_of_cell? w _ hx135_0)).trans hx135_0
                            replace p135 := eq_true p135
                            replace q135 := eq_true q135
                            go_wp2
                            repeat (go_quiet (fail); try go_wp2)
                            go_ret
                            exact ⟨by first | rfl | (simp [errW_none, errW_some] <;> rfl) | (simp [*, errW_none, errW_some] <;> rfl), by repeat (first | (with_reducible first | exact HB.out | apply below_alloc | apply pw_below_drewN | apply below_drew1 | refine below_set ?_ GE128.out) | exact HB.out)⟩
                          · rw [if_neg c39] at H
                            have c39b0 : decide ((rd l0_3 x4_2) < (-99999)) = false := decide_eq_false c39
                            clear c39
                            by_cases c41 : (rd l0_3 x4_2) > 99999
                            · rw [if_pos c41] at H
                              have c41b0 : decide (99999 < (rd l0_3 x4_2)) = true := decide_eq_true c41
                              clear c41
                              obtain rfl := Option.some.inj H
                              have hcz42_0 : wr.cell? ⟨gb128, 0, none⟩ = some (.int .i64 a0_0) := (blk_cell BK128.out 0).trans rfl
                              have hcz42_1 : wr.cell? ⟨gb128, 1, none⟩ = some (.int .i64 a0_1) := (blk_cell BK128.out 1).trans rfl
                              have hcz42_2 : wr.cell? ⟨gb128, 2, none⟩ = some (.slice A0_2 l0_2.length c0_2) := (blk_cell BK128.out 2).trans rfl
                              have hcz42_3 : wr.cell? ⟨gb128, 3, none⟩ = some (.slice A0_3 l0_3.length c0_3) := (blk_cell BK128.out 3).trans rfl
                              have hcz42_4 : wr.cell? ⟨gb128, 4, none⟩ = some (.slice A0_4 l0_4.length c0_4) := (blk_cell BK128.out 4).trans rfl
                              have hcz42_5 : wr.cell? ⟨gb128, 5, none⟩ = some (.int .i64 a0_5) := (blk_cell BK128.out 5).trans rfl
                              have hcz42_6 : wr.cell? ⟨gb128, 6, none⟩ = some (.int .i64 a0_6) := (blk_cell BK128.out 6).trans rfl
                              have hfz42_0 := blk_frozen BK128.out 0
                              have hfz42_1 := blk_frozen BK128.out 1
                              have hfz42_2 := blk_frozen BK128.out 2
                              have hfz42_3 := blk_frozen BK128.out 3
                              have hfz42_4 := blk_frozen BK128.out 4
                              have hfz42_5 := blk_frozen BK128.out 5
                              have hfz42_6 := blk_frozen BK128.out 6
                              have p129 : 0 ≤ (x4_2 : Int) := of_decide_eq_true (by first | (with_reducible assumption) | assumption)
                              have q129 : x4_2 < (l0_2.length : Int) := of_decide_eq_true (by first | (with_reducible assumption) | assumption)
                              obtain ⟨ad129, e129, hx129_0⟩ := Kd.at_int HR0_2.out x4_2 p129 q129
                              cases e129
                              replace hx129_0 := (HB.out.cell (World.block_lt_of_cell? w _ hx129_0)).trans hx129_0
                              replace p129 := eq_true p129
                              replace q129 := eq_true q129
                              have p130 : 0 ≤ (x4_2 : Int) := of_decide_eq_true (by first | (with_reducible assumption) | assumption)
                              have q130 : x4_2 < (l0_2.length : Int) := of_decide_eq_true (by first | (with_reducible assumption) | assumption)
                              obtain ⟨ad130, e130, hx130_0⟩ := Kd.at_int HR0_2.out x4_2 p130 q130
                              obtain rfl : ad129 = ad130 := (by injection e130)
                              replace hx130_0 := (HB.out.cell (World.block_lt_of_cell? w _ hx130_0)).trans hx130_0
                              replace p130 := eq_true p130
                              replace q130 := eq_true q130
                              have p135 : 0 ≤ (x4_2 : Int) := of_decide_eq_true (by first | (with_reducible assumption) | assumption)
                              have q135 : x4_2 < (l0_3.length : Int) := of_decide_eq_true (by first | (with_reducible assumption) | assumption)
                              obtain ⟨ad135, e135, hx135_0⟩ := Kd.at_int HR0_3.out x4_2 p135 q135
                              cases e135
                              replace hx135_0 := (HB.out.cell (World.block_lt_of_cell? w _ hx135_0)).trans hx135_0
                              replace p135 := eq_true p135
                              replace q135 := eq_true q135
                              have p136 : 0 ≤ (x4_2 : Int) := of_decide_eq_true (by first | (with_reducible assumption) | assumption)
                              have q136 : x4_2 < (l0_3.length : Int) := of_decide_eq_true (by first | (with_reducible assumption) | assumption)
                              obtain ⟨ad136, e136, hx136_0⟩ := Kd.at_int HR0_3.out x4_2 p136 q136
                              obtain rfl : ad135 = ad136 := (by injection e136)
                              replace hx136_0 := (HB.out.cell (World.block_lt_of_cell? w _ hx136_0)).trans hx136_0
                              replace p136 := eq_true p136
                              replace q136 := eq_true q136
                              go_wp2
                              repeat (go_quiet (fail); try go_wp2)
                              go_ret
                              exact ⟨by first | rfl | (simp [errW_none, errW_some] <;> rfl) | (simp [*, errW_none, errW_some] <;> rfl), by repeat (first | (with_reducible first | exact HB.out | apply below_alloc | apply pw_below_drewN | apply below_drew1 | refine below_set ?_ GE128.out) | exact HB.out)⟩
                            · rw [if_neg c41] at H
                              have c41b0 : decide (99999 < (rd l0_3 x4_2)) = false := decide_eq_false c41
                              clear c41
                              have H' := Aside0.mk H
                              clear H
                              have hcz43_0 : wr.cell? ⟨gb128, 0, none⟩ = some (.int .i64 a0_0) := (blk_cell BK128.out 0).trans rfl
                              have hcz43_1 : wr.cell? ⟨gb128, 1, none⟩ = some (.int .i64 a0_1) := (blk_cell BK128.out 1).trans rfl
                              have hcz43_2 : wr.cell? ⟨gb128, 2, none⟩ = some (.slice A0_2 l0_2.length c0_2) := (blk_cell BK128.out 2).trans rfl
                              have hcz43_3 : wr.cell? ⟨gb128, 3, none⟩ = some (.slice A0_3 l0_3.length c0_3) := (blk_cell BK128.out 3).trans rfl
                              have hcz43_4 : wr.cell? ⟨gb128, 4, none⟩ = some (.slice A0_4 l0_4.length c0_4) := (blk_cell BK128.out 4).trans rfl
                              have hcz43_5 : wr.cell? ⟨gb128, 5, none⟩ = some (.int .i64 a0_5) := (blk_cell BK128.out 5).trans rfl
                              have hcz43_6 : wr.cell? ⟨gb128, 6, none⟩ = some (.int .i64 a0_6) := (blk_cell BK128.out 6).trans rfl
                              have hfz43_0 := blk_frozen BK128.out 0
                              have hfz43_1 := blk_frozen BK128.out 1
                              have hfz43_2 := blk_frozen BK128.out 2
                              have hfz43_3 := blk_frozen BK128.out 3
                              have hfz43_4 := blk_frozen BK128.out 4
                              have hfz43_5 := blk_frozen BK128.out 5
                              have hfz43_6 := blk_frozen BK128.out 6
                              have p129 : 0 ≤ (x4_2 : Int) := of_decide_eq_true (by first | (with_reducible assumption) | assumption)
                              have q129 : x4_2 < (l0_2.length : Int) := of_decide_eq_true (by first | (with_reducible assumption) | assumption)
                              obtain ⟨ad129, e129, hx129_0⟩ := Kd.at_int HR0_2.out x4_2 p129 q129
                              cases e129
                              replace hx129_0 := (HB.out.cell (World.block_lt_of_cell? w _ hx129_0)).trans hx129_0
                              replace p129 := eq_true p129
                              replace q129 := eq_true q129
                              have p130 : 0 ≤ (x4_2 : Int) := of_decide_eq_true (by first | (with_reducible assumption) | assumption)
                              have q130 : x4_2 < (l0_2.length : Int) := of_decide_eq_true (by first | (with_reducible assumption) | assumption)
                              obtain ⟨ad130, e130, hx130_0⟩ := Kd.at_int HR0_2.out x4_2 p130 q130
                              obtain rfl : ad129 = ad130 := (by injection e130)
                              replace hx130_0 := (HB.out.cell (World.block_lt_of_cell? w _ hx130_0)).trans hx130_0
                              replace p130 := eq_true p130
                              replace q130 := eq_true q130
                              have p135 : 0 ≤ (x4_2 : Int) := of_decide_eq_true (by first | (with_reducible assumption) | assumption)
                              have q135 : x4_2 < (l0_3.length : Int) := of_decide_eq_true (by first | (with_reducible assumption) | assumption)
                              obtain ⟨ad135, e135, hx135_0⟩ := Kd.at_int HR0_3.out x4_2 p135 q135
                              cases e135
                              replace hx135_0 := (HB.out.cell (World.block_lt_of_cell? w _ hx135_0)).trans hx135_0
                              replace p135 := eq_true p135
                              replace q135 := eq_true q135
                              have p136 : 0 ≤ (x4_2 : Int) := of_decide_eq_true (by first | (with_reducible assumption) | assumption)
                              have q136 : x4_2 < (l0_3.length : Int) := of_decide_eq_true (by first | (with_reducible assumption) | assumption)
                              obtain ⟨ad136, e136, hx136_0⟩ := Kd.at_int HR0_3.out x4_2 p136 q136
                              obtain rfl : ad135 = ad136 := (by injection e136)
                              replace hx136_0 := (HB.out.cell (World.block_lt_of_cell? w _ hx136_0)).trans hx136_0
                              replace p136 := eq_true p136
                              replace q136 := eq_true q136
                              go_wp2
                              repeat (go_quiet (fail); try go_wp2)
                              go_roundg k2
                              case measure => have := HJ1.out; have := HK2.out; omega
                              case rel => exact ⟨(wrap64 (x4_2 + 1)), (by first | rfl | (simp; done) | (simp [*]; done)), H', ⟨by have := HJ1.out; have := HK2.out; omega⟩, ⟨by (with_reducible repeat (first | refine blk_drewN ?_ _ | refine blk_drew ?_ | refine blk_alloc ?_ _)); exact BK128.out⟩, ⟨by repeat (first | (with_reducible first | exact HB.out | apply below_alloc | apply pw_below_drewN | apply below_drew1 | refine below_set ?_ GE128.out) | exact HB.out)⟩⟩
                        · rw [if_neg c38] at H
                          exact absurd H (by simp)
                · rw [if_neg c21] at H
                  exact absurd H (by simp)
              · rw [if_neg c20] at H
                exact absurd H (by simp)
            · rw [if_neg c19] at H
              have c19b0 : decide (x4_2 < (l0_2.length : Int)) = false := decide_eq_false c19
              clear c19
              have H' := Aside0.mk H
              clear H
              go_wp2
              repeat (go_quiet (fail); try go_wp2)
              go_loopg [5] k2 (fun kq v5 w' => ∃ (x5_3 : Int), v5 = .int .i64 x5_3 ∧ Aside0 (assizeref28_Check.l1 kq (l0_2.length : Int) x5_3 a0_0 a0_1 l0_2 l0_3 l0_4 a0_5 a0_6 = some r) ∧ Aside0 (kq ≤ k2) ∧ Aside0 (w'.heap[gb128]? = some (.cells #[.int .i64 a0_0, .int .i64 a0_1, (.slice A0_2 l0_2.length c0_2), (.slice A0_3 l0_3.length c0_3), (.slice A0_4 l0_4.length c0_4), .int .i64 a0_5, .int .i64 a0_6] 25 (0, 0))) ∧ Aside0 (Below w.heap.size w w'))
              case atStart => exact ⟨(0), (by first | rfl | (simp; done) | (simp [*]; done)), H', ⟨Nat.le_refl _⟩, ⟨by (with_reducible repeat (first | refine blk_drewN ?_ _ | refine blk_drew ?_ | refine blk_alloc ?_ _)); exact BK128.out⟩, ⟨by repeat (first | (with_reducible first | exact HB.out | apply below_alloc | apply pw_below_drewN | apply below_drew1 | refine below_set ?_ GE128.out) | exact HB.out)⟩⟩
              case round =>
                clear H'
                try clear c1
                try clear p1
                try clear q1
                try clear hx1
                try clear c2
                try clear p2
                try clear c3
                try clear c4
                try clear p6
                try clear p12
                try clear q12
                try clear hx12
                try clear p13
                try clear q13
                try clear hx13
                try clear c19
                try clear c19b0
                try clear c20
                try clear c20b0
                try clear c21
                try clear c21b0
                try clear c22
                try clear c22b0
                try clear c24
                try clear c24b0
                try clear c26
                try clear c26b0
                try clear c28
                try clear c28b0
                try clear c29
                try clear c29b0
                try clear c30
                try clear c30b0
                try clear c32
                try clear c32b0
                try clear c33
                try clear c33b0
                try clear c35
                try clear c35b0
                try clear c38
                try clear c38b0
                try clear c39
                try clear c39b0
                try clear c41
                try clear c41b0
                try clear hcz23_0
                try clear hcz23_1
                try clear hcz23_2
                try clear hcz23_3
                try clear hcz23_4
                try clear hcz23_5
                try clear hcz23_6
                try clear hcz25_0
                try clear hcz25_1
                try clear hcz25_2
                try clear hcz25_3
                try clear hcz25_4
                try clear hcz25_5
                try clear hcz25_6
                try clear hcz31_0
                try clear hcz31_1
                try clear hcz31_2
                try clear hcz31_3
                try clear hcz31_4
                try clear hcz31_5
                try clear hcz31_6
                try clear hcz34_0
                try clear hcz34_1
                try clear hcz34_2
                try clear hcz34_3
                try clear hcz34_4
                try clear hcz34_5
                try clear hcz34_6
                try clear hcz36_0
                try clear hcz36_1
                try clear hcz36_2
                try clear hcz36_3
                try clear hcz36_4
                try clear hcz36_5
                try clear hcz36_6
                try clear hcz37_0
                try clear hcz37_1
                try clear hcz37_2
                try clear hcz37_3
                try clear hcz37_4
                try clear hcz37_5
                try clear hcz37_6
                try clear hcz40_0
                try clear hcz40_1
                try clear hcz40_2
                try clear hcz40_3
                try clear hcz40_4
                try clear hcz40_5
                try clear hcz40_6
                try clear hcz42_0
                try clear hcz42_1
                try clear hcz42_2
                try clear hcz42_3
                try clear hcz42_4
                try clear hcz42_5
                try clear hcz42_6
                try clear hcz43_0
                try clear hcz43_1
                try clear hcz43_2
                try clear hcz43_3
                try clear hcz43_4
                try clear hcz43_5
                try clear hcz43_6
                try clear hcz8_1
                try clear hcz8_2
                try clear hcz8_3
                try clear hcz8_4
                try clear hcz8_5
                try clear hcz8_6
                try clear hfz10_0
                try clear hfz10_1
                try clear hfz10_2
                try clear hfz10_3
                try clear hfz10_4
                try clear hfz10_5
                try clear hfz10_6
                try clear hfz12_0
                try clear hfz12_1
                try clear hfz12_2
                try clear hfz12_3
                try clear hfz12_4
                try clear hfz12_5
                try clear hfz12_6
                try clear hfz14_0
                try clear hfz14_1
                try clear hfz14_2
                try clear hfz14_3
                try clear hfz14_4
                try clear hfz14_5
                try clear hfz14_6
                try clear hfz16_0
                try clear hfz16_1
                try clear hfz16_2
                try clear hfz16_3
                try clear hfz16_4
                try clear hfz16_5
                try clear hfz16_6
                try clear hfz17_0
                try clear hfz17_1
                try clear hfz17_2
                try clear hfz17_3
                try clear hfz17_4
                try clear hfz17_5
                try clear hfz17_6
                try clear hfz23_0
                try clear hfz23_1
                try clear hfz23_2
                try clear hfz23_3
                try clear hfz23_4
                try clear hfz23_5
                try clear hfz23_6
                try clear hfz25_0
                try clear hfz25_1
                try clear hfz25_2
                try clear hfz25_3
                try clear hfz25_4
                try clear hfz25_5
                try clear hfz25_6
                try clear hfz31_0
                try clear hfz31_1
                try clear hfz31_2
                try clear hfz31_3
                try clear hfz31_4
                try clear hfz31_5
                try clear hfz31_6
                try clear hfz34_0
                try clear hfz34_1
                try clear hfz34_2
                try clear hfz34_3
                try clear hfz34_4
                try clear hfz34_5
                try clear hfz34_6
                try clear hfz36_0
                try clear hfz36_1
                try clear hfz36_2
                try clear hfz36_3
                try clear hfz36_4
                try clear hfz36_5
                try clear hfz36_6
                try clear hfz37_0
                try clear hfz37_1
                try clear hfz37_2
                try clear hfz37_3
                try clear hfz37_4
                try clear hfz37_5
                try clear hfz37_6
                try clear hfz40_0
                try clear hfz40_1
                try clear hfz40_2
                try clear hfz40_3
                try clear hfz40_4
                try clear hfz40_5
                try clear hfz40_6
                try clear hfz42_0
                try clear hfz42_1
                try clear hfz42_2
                try clear hfz42_3
                try clear hfz42_4
                try clear hfz42_5
                try clear hfz42_6
                try clear hfz43_0
                try clear hfz43_1
                try clear hfz43_2
                try clear hfz43_3
                try clear hfz43_4
                try clear hfz43_5
                try clear hfz43_6
                try clear hfz4_0
                try clear hfz4_1
                try clear hfz4_2
                try clear hfz4_3
                try clear hfz4_4
                try clear hfz4_5
                try clear hfz4_6
                try clear hfz6_0
                try clear hfz6_1
                try clear hfz6_2
                try clear hfz6_3
                try clear hfz6_4
                try clear hfz6_5
                try clear hfz6_6
                try clear hfz8_0
                try clear hfz8_1
                try clear hfz8_2
                try clear hfz8_3
                try clear hfz8_4
                try clear hfz8_5
                try clear hfz8_6
                try clear hx129_0
                try clear hx130_0
                try clear hx131_0
                try clear hx132_0
                try clear hx133_0
                try clear hx134_0
                try clear hx135_0
                try clear hx136_0
                try clear p129
                try clear p130
                try clear p131
                try clear p132
                try clear p133
                try clear p134
                try clear p135
                try clear p136
                try clear p2
                try clear q129
                try clear q130
                try clear q131
                try clear q132
                try clear q133
                try clear q134
                try clear q135
                try clear q136
                obtain ⟨x5_3, rfl, HA, HK3, BK128, HB⟩ := hrel
                cases gk with
                | zero => exact absurd HA.out (by simp [assizeref28_Check.l1])
                | succ k3 =>
                  have H := HA.out
                  clear HA
                  simp only [assizeref28_Check.l1] at H
                  by_cases c44 : x5_3 < (l0_4.length : Int)
                  · rw [if_pos c44] at H
                    have c44b0 : decide (x5_3 < (l0_4.length : Int)) = true := decide_eq_true c44
                    clear c44
                    by_cases c45 : 0 ≤ x5_3
                    · rw [if_pos c45] at H
                      have c45b0 : decide (0 ≤ x5_3) = true := decide_eq_true c45
                      clear c45
                      by_cases c46 : ((rd_T53 l0_4 x5_3).f0) < 0
                      · rw [if_pos c46] at H
                        have c46b0 : decide (((rd_T53 l0_4 x5_3).f0) < 0) = true := decide_eq_true c46
                        clear c46
                        obtain rfl := Option.some.inj H
                        have hcz47_0 : wr.cell? ⟨gb128, 0, none⟩ = some (.int .i64 a0_0) := (blk_cell BK128.out 0).trans rfl
                        have hcz47_1 : wr.cell? ⟨gb128, 1, none⟩ = some (.int .i64 a0_1) := (blk_cell BK128.out 1).trans rfl
                        have hcz47_2 : wr.cell? ⟨gb128, 2, none⟩ = some (.slice A0_2 l0_2.length c0_2) := (blk_cell BK128.out 2).trans rfl
                        have hcz47_3 : wr.cell? ⟨gb128, 3, none⟩ = some (.slice A0_3 l0_3.length c0_3) := (blk_cell BK128.out 3).trans rfl
                        have hcz47_4 : wr.cell? ⟨gb128, 4, none⟩ = some (.slice A0_4 l0_4.length c0_4) := (blk_cell BK128.out 4).trans rfl
                        have hcz47_5 : wr.cell? ⟨gb128, 5, none⟩ = some (.int .i64 a0_5) := (blk_cell BK128.out 5).trans rfl
                        have hcz47_6 : wr.cell? ⟨gb128, 6, none⟩ = some (.int .i64 a0_6) := (blk_cell BK128.out 6).trans rfl
                        have hfz47_0 := blk_frozen BK128.out 0
                        have hfz47_1 := blk_frozen BK128.out 1
                        have hfz47_2 := blk_frozen BK128.out 2
                        have hfz47_3 := blk_frozen BK128.out 3
                        have hfz47_4 := blk_frozen BK128.out 4
                        have hfz47_5 := blk_frozen BK128.out 5
                        have hfz47_6 := blk_frozen BK128.out 6
                        have p137 : 0 ≤ (x5_3 : Int) := of_decide_eq_true (by first | (with_reducible assumption) | assumption)
                        have q137 : x5_3 < (l0_4.length : Int) := of_decide_eq_true (by first | (with_reducible assumption) | assumption)
                        obtain ⟨ad137, e137, hx137_0, hx137_1⟩ := at_T53 HR0_4.out x5_3 p137 q137
                        cases e137
                        replace hx137_0 := (HB.out.cell (World.block_lt_of_cell? w _ hx137_0)).trans hx137_0
                        replace hx137_1 := (HB.out.cell (World.block_lt_of_cell? w _ hx137_1)).trans hx137_1
                        replace p137 := eq_true p137
                        replace q137 := eq_true q137
                        go_wp2_with (first | ((with_reducible refine gate_dst (N := 6) rfl ?_); (try (refine gate_guard (by rfl) ?_; dsimp only)); refine box_event ?hg (N := 6) ?hd (cs := #[.int .i64 0, .int .i64 0]) (t := 53) ?hr ?_; (case hd => rfl); (case hg => rfl); (case hr => first | (go_simp; done) | (go_simp; rfl)); intro gb138 hg w48 hbox hb; have n0_ := Aside0.mk (blk_below (g := gb128) (o := .cells #[.int .i64 a0_0, .int .i64 a0_1, .slice A0_2 l0_2.length c0_2, .slice A0_3 l0_3.length c0_3, .slice (some ad137) l0_4.length c0_4, .int .i64 a0_5, .int .i64 a0_6] 25 (0, 0)) (by (with_reducible repeat (first | refine blk_drewN ?_ _ | refine blk_drew ?_ | refine blk_alloc ?_ _)); exact BK128.out) hb); have n1_ := Aside0.mk (below_step (by repeat (first | (with_reducible first | exact HB.out | apply below_alloc | apply pw_below_drewN | apply below_drew1 | refine below_set ?_ GE128.out) | exact HB.out)) hb); have n2_ := Aside0.mk (hbox); have n3_ := Aside0.mk ((by rw [hg]; exact (below_size (by repeat (first | (with_reducible first | exact HB.out | apply below_alloc | apply pw_below_drewN | apply below_drew1 | refine below_set ?_ GE128.out) | exact HB.out))) : w.heap.size ≤ gb138)); have n4_ := Aside0.mk ((by rw [hg]; exact (below_size (by repeat (first | (with_reducible first | exact HB.out | apply below_alloc | apply pw_below_drewN | apply below_drew1 | refine below_set ?_ GE128.out) | exact HB.out))) : w.heap.size ≤ gb138)); have n5_ := Aside0.mk ((by rw [hg]; exact Nat.ne_of_lt (blk_lt (g := gb128) (o := .cells #[.int .i64 a0_0, .int .i64 a0_1, .slice A0_2 l0_2.length c0_2, .slice A0_3 l0_3.length c0_3, .slice (some ad137) l0_4.length c0_4, .int .i64 a0_5, .int .i64 a0_6] 25 (0, 0)) (by (with_reducible repeat (first | refine blk_drewN ?_ _ | refine blk_drew ?_ | refine blk_alloc ?_ _)); exact BK128.out)) : gb128 ≠ gb138)); have n6_ := Aside0.mk ((by rw [hg]; exact Nat.ne_of_gt (blk_lt (g := gb128) (o := .cells #[.int .i64 a0_0, .int .i64 a0_1, .slice A0_2 l0_2.length c0_2, .slice A0_3 l0_3.length c0_3, .slice (some ad137) l0_4.length c0_4, .int .i64 a0_5, .int .i64 a0_6] 25 (0, 0)) (by (with_reducible repeat (first | refine blk_drewN ?_ _ | refine blk_drew ?_ | refine blk_alloc ?_ _)); exact BK128.out)) : gb138 ≠ gb128)); clear BK128; clear HB; have BK128 := n0_; have HB := n1_; have BK138 := n2_; have GW138 := n3_; have GE138 := n4_; have NB128_138 := n5_; have NB138_128 := n6_; clear n0_ n1_ n2_ n3_ n4_ n5_ n6_; clear hb hbox hg; have hnb49 := NB138_128.out; have hnc49 := NB128_138.out; have hcz50_0 : w48.cell? ⟨gb138, 0, none⟩ = some (.int .i64 0) := (blk_cell BK138.out 0).trans rfl; have hcz50_1 : w48.cell? ⟨gb138, 1, none⟩ = some (.int .i64 0) := (blk_cell BK138.out 1).trans rfl; have hfz50_0 := blk_frozen BK138.out 0; have hfz50_1 := blk_frozen BK138.out 1))
                        repeat (go_quiet (first | ((with_reducible refine gate_dst (N := 6) rfl ?_); (try (refine gate_guard (by rfl) ?_; dsimp only)); refine box_event ?hg (N := 6) ?hd (cs := #[.int .i64 0, .int .i64 0]) (t := 53) ?hr ?_; (case hd => rfl); (case hg => rfl); (case hr => first | (go_simp; done) | (go_simp; rfl)); intro gb138 hg w48 hbox hb; have n0_ := Aside0.mk (blk_below (g := gb128) (o := .cells #[.int .i64 a0_0, .int .i64 a0_1, .slice A0_2 l0_2.length c0_2, .slice A0_3 l0_3.length c0_3, .slice (some ad137) l0_4.length c0_4, .int .i64 a0_5, .int .i64 a0_6] 25 (0, 0)) (by (with_reducible repeat (first | refine blk_drewN ?_ _ | refine blk_drew ?_ | refine blk_alloc ?_ _)); exact BK128.out) hb); have n1_ := Aside0.mk (below_step (by repeat (first | (with_reducible first | exact HB.out | apply below_alloc | apply pw_below_drewN | apply below_drew1 | refine below_set ?_ GE128.out) | exact HB.out)) hb); have n2_ := Aside0.mk (hbox); have n3_ := Aside0.mk ((by rw [hg]; exact (below_size (by repeat (first | (with_reducible first | exact HB.out | apply below_alloc | apply pw_below_drewN | apply below_drew1 | refine below_set ?_ GE128.out) | exact HB.out))) : w.heap.size ≤ gb138)); have n4_ := Aside0.mk ((by rw [hg]; exact (below_size (by repeat (first | (with_reducible first | exact HB.out | apply below_alloc | apply pw_below_drewN | apply below_drew1 | refine below_set ?_ GE128.out) | exact HB.out))) : w.heap.size ≤ gb138)); have n5_ := Aside0.mk ((by rw [hg]; exact Nat.ne_of_lt (blk_lt (g := gb128) (o := .cells #[.int .i64 a0_0, .int .i64 a0_1, .slice A0_2 l0_2.length c0_2, .slice A0_3 l0_3.length c0_3, .slice (some ad137) l0_4.length c0_4, .int .i64 a0_5, .int .i64 a0_6] 25 (0, 0)) (by (with_reducible repeat (first | refine blk_drewN ?_ _ | refine blk_drew ?_ | refine blk_alloc ?_ _)); exact BK128.out)) : gb128 ≠ gb138)); have n6_ := Aside0.mk ((by rw [hg]; exact Nat.ne_of_gt (blk_lt (g := gb128) (o := .cells #[.int .i64 a0_0, .int .i64 a0_1, .slice A0_2 l0_2.length c0_2, .slice A0_3 l0_3.length c0_3, .slice (some ad137) l0_4.length c0_4, .int .i64 a0_5, .int .i64 a0_6] 25 (0, 0)) (by (with_reducible repeat (first | refine blk_drewN ?_ _ | refine blk_drew ?_ | refine blk_alloc ?_ _)); exact BK128.out)) : gb138 ≠ gb128)); clear BK128; clear HB; have BK128 := n0_; have HB := n1_; have BK138 := n2_; have GW138 := n3_; have GE138 := n4_; have NB128_138 := n5_; have NB138_128 := n6_; clear n0_ n1_ n2_ n3_ n4_ n5_ n6_; clear hb hbox hg; have hnb49 := NB138_128.out; have hnc49 := NB128_138.out; have hcz50_0 : w48.cell? ⟨gb138, 0, none⟩ = some (.int .i64 0) := (blk_cell BK138.out 0).trans rfl; have hcz50_1 : w48.cell? ⟨gb138, 1, none⟩ = some (.int .i64 0) := (blk_cell BK138.out 1).trans rfl; have hfz50_0 := blk_frozen BK138.out 0; have hfz50_1 := blk_frozen BK138.out 1)); try go_wp2_with (first | ((with_reducible refine gate_dst (N := 6) rfl ?_); (try (refine gate_guard (by rfl) ?_; dsimp only)); refine box_event ?hg (N := 6) ?hd (cs := #[.int .i64 0, .int .i64 0]) (t := 53) ?hr ?_; (case hd => rfl); (case hg => rfl); (case hr => first | (go_simp; done) | (go_simp; rfl)); intro gb138 hg w48 hbox hb; have n0_ := Aside0.mk (blk_below (g := gb128) (o := .cells #[.int .i64 a0_0, .int .i64 a0_1, .slice A0_2 l0_2.length c0_2, .slice A0_3 l0_3.length c0_3, .slice (some ad137) l0_4.length c0_4, .int .i64 a0_5, .int .i64 a0_6] 25 (0, 0)) (by (with_reducible repeat (first | refine blk_drewN ?_ _ | refine blk_drew ?_ | refine blk_alloc ?_ _)); exact BK128.out) hb); have n1_ := Aside0.mk (below_step (by repeat (first | (with_reducible first | exact HB.out | apply below_alloc | apply pw_below_drewN | apply below_drew1 | refine below_set ?_ GE128.out) | exact HB.out)) hb); have n2_ := Aside0.mk (hbox); have n3_ := Aside0.mk ((by rw [hg]; exact (below_size (by repeat (first | (with_reducible first | exact HB.out | apply below_alloc | apply pw_below_drewN | apply below_drew1 | refine below_set ?_ GE128.out) | exact HB.out))) : w.heap.size ≤ gb138)); have n4_ := Aside0.mk ((by rw [hg]; exact (below_size (by repeat (first | (with_reducible first | exact HB.out | apply below_alloc | apply pw_below_drewN | apply below_drew1 | refine below_set ?_ GE128.out) | exact HB.out))) : w.heap.size ≤ gb138)); have n5_ := Aside0.mk ((by rw [hg]; exact Nat.ne_of_lt (blk_lt (g := gb128) (o := .cells #[.int .i64 a0_0, .int .i64 a0_1, .slice A0_2 l0_2.length c0_2, .slice A0_3 l0_3.length c0_3, .slice (some ad137) l0_4.length c0_4, .int .i64 a0_5, .int .i64 a0_6] 25 (0, 0)) (by (with_reducible repeat (first | refine blk_drewN ?_ _ | refine blk_drew ?_ | refine blk_alloc ?_ _)); exact BK128.out)) : gb128 ≠ gb138)); have n6_ := Aside0.mk ((by rw [hg]; exact Nat.ne_of_gt (blk_lt (g := gb128) (o := .cells #[.int .i64 a0_0, .int .i64 a0_1, .slice A0_2 l0_2.length c0_2, .slice A0_3 l0_3.length c0_3, .slice (some ad137) l0_4.length c0_4, .int .i64 a0_5, .int .i64 a0_6] 25 (0, 0)) (by (with_reducible repeat (first | refine blk_drewN ?_ _ | refine blk_drew ?_ | refine blk_alloc ?_ _)); exact BK128.out)) : gb138 ≠ gb128)); clear BK128; clear HB; have BK128 := n0_; have HB := n1_; have BK138 := n2_; have GW138 := n3_; have GE138 := n4_; have NB128_138 := n5_; have NB138_128 := n6_; clear n0_ n1_ n2_ n3_ n4_ n5_ n6_; clear hb hbox hg; have hnb49 := NB138_128.out; have hnc49 := NB128_138.out; have hcz50_0 : w48.cell? ⟨gb138, 0, none⟩ = some (.int .i64 0) := (blk_cell BK138.out 0).trans rfl; have hcz50_1 : w48.cell? ⟨gb138, 1, none⟩ = some (.int .i64 0) := (blk_cell BK138.out 1).trans rfl; have hfz50_0 := blk_frozen BK138.out 0; have hfz50_1 := blk_frozen BK138.out 1)))
                        go_ret
                        exact ⟨by first | rfl | (simp [errW_none, errW_some] <;> rfl) | (simp [*, errW_none, errW_some] <;> rfl), by repeat (first | (with_reducible first | exact HB.out | apply below_alloc | apply pw_below_drewN | apply below_drew1 | refine below_set ?_ GE128.out | refine below_set ?_ GE138.out) | exact HB.out)⟩
                      · rw [if_neg c46] at H
                        have c46b0 : decide (((rd_T53 l0_4 x5_3).f0) < 0) = false := decide_eq_false c46
                        clear c46
                        by_cases c51 : ((rd_T53 l0_4 x5_3).f0) ≥ (l0_2.length : Int)
                        · rw [if_pos c51] at H
                          have c51b0 : decide ((l0_2.length : Int) ≤ ((rd_T53 l0_4 x5_3).f0)) = true := decide_eq_true c51
                          clear c51
                          obtain rfl := Option.some.inj H
                          have hcz52_0 : wr.cell? ⟨gb128, 0, none⟩ = some (.int .i64 a0_0) := (blk_cell BK128.out 0).trans rfl
                          have hcz52_1 : wr.cell? ⟨gb128, 1, none⟩ = some (.int .i64 a0_1) := (blk_cell BK128.out 1).trans rfl
                          have hcz52_2 : wr.cell? ⟨gb128, 2, none⟩ = some (.slice A0_2 l0_2.length c0_2) := (blk_cell BK128.out 2).trans rfl
                          have hcz52_3 : wr.cell? ⟨gb128, 3, none⟩ = some (.slice A0_3 l0_3.length c0_3) := (blk_cell BK128.out 3).trans rfl
                          have hcz52_4 : wr.cell? ⟨gb128, 4, none⟩ = some (.slice A0_4 l0_4.length c0_4) := (blk_cell BK128.out 4).trans rfl
                          have hcz52_5 : wr.cell? ⟨gb128, 5, none⟩ = some (.int .i64 a0_5) := (blk_cell BK128.out 5).trans rfl
                          have hcz52_6 : wr.cell? ⟨gb128, 6, none⟩ = some (.int .i64 a0_6) := (blk_cell BK128.out 6).trans rfl
                          have hfz52_0 := blk_frozen BK128.out 0
                          have hfz52_1 := blk_frozen BK128.out 1
                          have hfz52_2 := blk_frozen BK128.out 2
                          have hfz52_3 := blk_frozen BK128.out 3
                          have hfz52_4 := blk_frozen BK128.out 4
                          have hfz52_5 := blk_frozen BK128.out 5
                          have hfz52_6 := blk_frozen BK128.out 6
                          have p137 : 0 ≤ (x5_3 : Int) := of_decide_eq_true (by first | (with_reducible assumption) | assumption)
                          have q137 : x5_3 < (l0_4.length : Int) := of_decide_eq_true (by first | (with_reducible assumption) | assumption)
                          obtain ⟨ad137, e137, hx137_0, hx137_1⟩ := at_T53 HR0_4.out x5_3 p137 q137
                          cases e137
                          replace hx137_0 := (HB.out.cell (World.block_lt_of_cell? w _ hx137_0)).trans hx137_0
                          replace hx137_1 := (HB.out.cell (World.block_lt_of_cell? w _ hx137_1)).trans hx137_1
                          replace p137 := eq_true p137
                          replace q137 := eq_true q137
                          go_wp2_with (first | ((with_reducible refine gate_dst (N := 6) rfl ?_); (try (refine gate_guard (by rfl) ?_; dsimp only)); refine box_event ?hg (N := 6) ?hd (cs := #[.int .i64 0, .int .i64 0]) (t := 53) ?hr ?_; (case hd => rfl); (case hg => rfl); (case hr => first | (go_simp; done) | (go_simp; rfl)); intro gb138 hg w53 hbox hb; have n0_ := Aside0.mk (blk_below (g := gb128) (o := .cells #[.int .i64 a0_0, .int .i64 a0_1, .slice A0_2 l0_2.length c0_2, .slice A0_3 l0_3.length c0_3, .slice (some ad137) l0_4.length c0_4, .int .i64 a0_5, .int .i64 a0_6] 25 (0, 0)) (by (with_reducible repeat (first | refine blk_drewN ?_ _ | refine blk_drew ?_ | refine blk_alloc ?_ _)); exact BK128.out) hb); have n1_ := Aside0.mk (below_step (by repeat (first | (with_reducible first | exact HB.out | apply below_alloc | apply pw_below_drewN | apply below_drew1 | refine below_set ?_ GE128.out) | exact HB.out)) hb); have n2_ := Aside0.mk (hbox); have n3_ := Aside0.mk ((by rw [hg]; exact (below_size (by repeat (first | (with_reducible first | exact HB.out | apply below_alloc | apply pw_below_drewN | apply below_drew1 | refine below_set ?_ GE128.out) | exact HB.out))) : w.heap.size ≤ gb138)); have n4_ := Aside0.mk ((by rw [hg]; exact (below_size (by repeat (first | (with_reducible first | exact HB.out | apply below_alloc | apply pw_below_drewN | apply below_drew1 | refine below_set ?_ GE128.out) | exact HB.out))) : w.heap.size ≤ gb138)); have n5_ := Aside0.mk ((by rw [hg]; exact Nat.ne_of_lt (blk_lt (g := gb128) (o := .cells #[.int .i64 a0_0, .int .i64 a0_1, .slice A0_2 l0_2.length c0_2, .slice A0_3 l0_3.length c0_3, .slice (some ad137) l0_4.length c0_4, .int .i64 a0_5, .int .i64 a0_6] 25 (0, 0)) (by (with_reducible repeat (first | refine blk_drewN ?_ _ | refine blk_drew ?_ | refine blk_alloc ?_ _)); exact BK128.out)) : gb128 ≠ gb138)); have n6_ := Aside0.mk ((by rw [hg]; exact Nat.ne_of_gt (blk_lt (g := gb128) (o := .cells #[.int .i64 a0_0, .int .i64 a0_1, .slice A0_2 l0_2.length c0_2, .slice A0_3 l0_3.length c0_3, .slice (some ad137) l0_4.length c0_4, .int .i64 a0_5, .int .i64 a0_6] 25 (0, 0)) (by (with_reducible repeat (first | refine blk_drewN ?_ _ | refine blk_drew ?_ | refine blk_alloc ?_ _)); exact BK128.out)) : gb138 ≠ gb128)); clear BK128; clear HB; have BK128 := n0_; have HB := n1_; have BK138 := n2_; have GW138 := n3_; have GE138 := n4_; have NB128_138 := n5_; have NB138_128 := n6_; clear n0_ n1_ n2_ n3_ n4_ n5_ n6_; clear hb hbox hg; have hnb54 := NB138_128.out; have hnc54 := NB128_138.out; have hcz55_0 : w53.cell? ⟨gb138, 0, none⟩ = some (.int .i64 0) := (blk_cell BK138.out 0).trans rfl; have hcz55_1 : w53.cell? ⟨gb138, 1, none⟩ = some (.int .i64 0) := (blk_cell BK138.out 1).trans rfl; have hfz55_0 := blk_frozen BK138.out 0; have hfz55_1 := blk_frozen BK138.out 1))
                          repeat (go_quiet (first | ((with_reducible refine gate_dst (N := 6) rfl ?_); (try (refine gate_guard (by rfl) ?_; dsimp only)); refine box_event ?hg (N := 6) ?hd (cs := #[.int .i64 0, .int .i64 0]) (t := 53) ?hr ?_; (case hd => rfl); (case hg => rfl); (case hr => first | (go_simp; done) | (go_simp; rfl)); intro gb138 hg w53 hbox hb; have n0_ := Aside0.mk (blk_below (g := gb128) (o := .cells #[.int .i64 a0_0, .int .i64 a0_1, .slice A0_2 l0_2.length c0_2, .slice A0_3 l0_3.length c0_3, .slice (some ad137) l0_4.length c0_4, .int .i64 a0_5, .int .i64 a0_6] 25 (0, 0)) (by (with_reducible repeat (first | refine blk_drewN ?_ _ | refine blk_drew ?_ | refine blk_alloc ?_ _)); exact BK128.out) hb); have n1_ := Aside0.mk (below_step (by repeat (first | (with_reducible first | exact HB.out | apply below_alloc | apply pw_below_drewN | apply below_drew1 | refine below_set ?_ GE128.out) | exact HB.out)) hb); have n2_ := Aside0.mk (hbox); have n3_ := Aside0.mk ((by rw [hg]; exact (below_size (by repeat (first | (with_reducible first | exact HB.out | apply below_alloc | apply pw_below_drewN | apply below_drew1 | refine below_set ?_ GE128.out) | exact HB.out))) : w.heap.size ≤ gb138)); have n4_ := Aside0.mk ((by rw [hg]; exact (below_size (by repeat (first | (with_reducible first | exact HB.out | apply below_alloc | apply pw_below_drewN | apply below_drew1 | refine below_set ?_ GE128.out) | exact HB.out))) : w.heap.size ≤ gb138)); have n5_ := Aside0.mk ((by rw [hg]; exact Nat.ne_of_lt (blk_lt (g := gb128) (o := .cells #[.int .i64 a0_0, .int .i64 a0_1, .slice A0_2 l0_2.length c0_2, .slice A0_3 l0_3.length c0_3, .slice (some ad137) l0_4.length c0_4, .int .i64 a0_5, .int .i64 a0_6] 25 (0, 0)) (by (with_reducible repeat (first | refine blk_drewN ?_ _ | refine blk_drew ?_ | refine blk_alloc ?_ _)); exact BK128.out)) : gb128 ≠ gb138)); have n6_ := Aside0.mk ((by rw [hg]; exact Nat.ne_of_gt (blk_lt (g := gb128) (o := .cells #[.int .i64 a0_0, .int .i64 a0_1, .slice A0_2 l0_2.length c0_2, .slice A0_3 l0_3.length c0_3, .slice (some ad137) l0_4.length c0_4, .int .i64 a0_5, .int .i64 a0_6] 25 (0, 0)) (by (with_reducible repeat (first | refine blk_drewN ?_ _ | refine blk_drew ?_ | refine blk_alloc ?_ _)); exact BK128.out)) : gb138 ≠ gb128)); clear BK128; clear HB; have BK128 := n0_; have HB := n1_; have BK138 := n2_; have GW138 := n3_; have GE138 := n4_; have NB128_138 := n5_; have NB138_128 := n6_; clear n0_ n1_ n2_ n3_ n4_ n5_ n6_; clear hb hbox hg; have hnb54 := NB138_128.out; have hnc54 := NB128_138.out; have hcz55_0 : w53.cell? ⟨gb138, 0, none⟩ = some (.int .i64 0) := (blk_cell BK138.out 0).trans rfl; have hcz55_1 : w53.cell? ⟨gb138, 1, none⟩ = some (.int .i64 0) := (blk_cell BK138.out 1).trans rfl; have hfz55_0 := blk_frozen BK138.out 0; have hfz55_1 := blk_frozen BK138.out 1)); try go_wp2_with (first | ((with_reducible refine gate_dst (N := 6) rfl ?_); (try (refine gate_guard (by rfl) ?_; dsimp only)); refine box_event ?hg (N := 6) ?hd (cs := #[.int .i64 0, .int .i64 0]) (t := 53) ?hr ?_; (case hd => rfl); (case hg => rfl); (case hr => first | (go_simp; done) | (go_simp; rfl)); intro gb138 hg w53 hbox hb; have n0_ := Aside0.mk (blk_below (g := gb128) (o := .cells #[.int .i64 a0_0, .int .i64 a0_1, .slice A0_2 l0_2.length c0_2, .slice A0_3 l0_3.length c0_3, .slice (some ad137) l0_4.length c0_4, .int .i64 a0_5, .int .i64 a0_6] 25 (0, 0)) (by (with_reducible repeat (first | refine blk_drewN ?_ _ | refine blk_drew ?_ | refine blk_alloc ?_ _)); exact BK128.out) hb); have n1_ := Aside0.mk (below_step (by repeat (first | (with_reducible first | exact HB.out | apply below_alloc | apply pw_below_drewN | apply below_drew1 | refine below_set ?_ GE128.out) | exact HB.out)) hb); have n2_ := Aside0.mk (hbox); have n3_ := Aside0.mk ((by rw [hg]; exact (below_size (by repeat (first | (with_reducible first | exact HB.out | apply below_alloc | apply pw_below_drewN | apply below_drew1 | refine below_set ?_ GE128.out) | exact HB.out))) : w.heap.size ≤ gb138)); have n4_ := Aside0.mk ((by rw [hg]; exact (below_size (by repeat (first | (with_reducible first | exact HB.out | apply below_alloc | apply pw_below_drewN | apply below_drew1 | refine below_set ?_ GE128.out) | exact HB.out))) : w.heap.size ≤ gb138)); have n5_ := Aside0.mk ((by rw [hg]; exact Nat.ne_of_lt (blk_lt (g := gb128) (o := .cells #[.int .i64 a0_0, .int .i64 a0_1, .slice A0_2 l0_2.length c0_2, .slice A0_3 l0_3.length c0_3, .slice (some ad137) l0_4.length c0_4, .int .i64 a0_5, .int .i64 a0_6] 25 (0, 0)) (by (with_reducible repeat (first | refine blk_drewN ?_ _ | refine blk_drew ?_ | refine blk_alloc ?_ _)); exact BK128.out)) : gb128 ≠ gb138)); have n6_ := Aside0.mk ((by rw [hg]; exact Nat.ne_of_gt (blk_lt (g := gb128) (o := .cells #[.int .i64 a0_0, .int .i64 a0_1, .slice A0_2 l0_2.length c0_2, .slice A0_3 l0_3.length c0_3, .slice (some ad137) l0_4.length c0_4, .int .i64 a0_5, .int .i64 a0_6] 25 (0, 0)) (by (with_reducible repeat (first | refine blk_drewN ?_ _ | refine blk_drew ?_ | refine blk_alloc ?_ _)); exact BK128.out)) : gb138 ≠ gb128)); clear BK128; clear HB; have BK128 := n0_; have HB := n1_; have BK138 := n2_; have GW138 := n3_; have GE138 := n4_; have NB128_138 := n5_; have NB138_128 := n6_; clear n0_ n1_ n2_ n3_ n4_ n5_ n6_; clear hb hbox hg; have hnb54 := NB138_128.out; have hnc54 := NB128_138.out; have hcz55_0 : w53.cell? ⟨gb138, 0, none⟩ = some (.int .i64 0) := (blk_cell BK138.out 0).trans rfl; have hcz55_1 : w53.cell? ⟨gb138, 1, none⟩ = some (.int .i64 0) := (blk_cell BK138.out 1).trans rfl; have hfz55_0 := blk_frozen BK138.out 0; have hfz55_1 := blk_frozen BK138.out 1)))
                          go_ret
                          exact ⟨by first | rfl | (simp [errW_none, errW_some] <;> rfl) | (simp [*, errW_none, errW_some] <;> rfl), by repeat (first | (with_reducible first | exact HB.out | apply below_alloc | apply pw_below_drewN | apply below_drew1 | refine below_set ?_ GE128.out | refine below_set ?_ GE138.out) | exact HB.out)⟩
                        · rw [if_neg c51] at H
                          have c51b0 : decide ((l0_2.length : Int) ≤ ((rd_T53 l0_4 x5_3).f0)) = false := decide_eq_false c51
                          clear c51
                          by_cases c56 : ((rd_T53 l0_4 x5_3).f1) < 0
                          · rw [if_pos c56] at H
                            have c56b0 : decide (((rd_T53 l0_4 x5_3).f1) < 0) = true := decide_eq_true c56
                            clear c56
                            obtain rfl := Option.some.inj H
                            have hcz57_0 : wr.cell? ⟨gb128, 0, none⟩ = some (.int .i64 a0_0) := (blk_cell BK128.out 0).trans rfl
                            have hcz57_1 : wr.cell? ⟨gb128, 1, none⟩ = some (.int .i64 a0_1) := (blk_cell BK128.out 1).trans rfl
                            have hcz57_2 : wr.cell? ⟨gb128, 2, none⟩ = some (.slice A0_2 l0_2.length c0_2) := (blk_cell BK128.out 2).trans rfl
                            have hcz57_3 : wr.cell? ⟨gb128, 3, none⟩ = some (.slice A0_3 l0_3.length c0_3) := (blk_cell BK128.out 3).trans rfl
                            have hcz57_4 : wr.cell? ⟨gb128, 4, none⟩ = some (.slice A0_4 l0_4.length c0_4) := (blk_cell BK128.out 4).trans rfl
                            have hcz57_5 : wr.cell? ⟨gb128, 5, none⟩ = some (.int .i64 a0_5) := (blk_cell BK128.out 5).trans rfl
                            have hcz57_6 : wr.cell? ⟨gb128, 6, none⟩ = some (.int .i64 a0_6) := (blk_cell BK128.out 6).trans rfl
                            have hfz57_0 := blk_frozen BK128.out 0
                            have hfz57_1 := blk_frozen BK128.out 1
                            have hfz57_2 := blk_frozen BK128.out 2
                            have hfz57_3 := blk_frozen BK128.out 3
                            have hfz57_4 := blk_frozen BK128.out 4
                            have hfz57_5 := blk_frozen BK128.out 5
                            have hfz57_6 := blk_frozen BK128.out 6
                            have p137 : 0 ≤ (x5_3 : Int) := of_decide_eq_true (by first | (with_reducible assumption) | assumption)
                            have q137 : x5_3 < (l0_4.length : Int) := of_decide_eq_true (by first | (with_reducible assumption) | assumption)
                            obtain ⟨ad137, e137, hx137_0, hx137_1⟩ := at_T53 HR0_4.out x5_3 p137 q137
                            cases e137
                            replace hx137_0 := (HB.out.cell (World.block_lt_of_cell? w _ hx137_0)).trans hx137_0
                            replace hx137_1 := (HB.out.cell (World.block_lt_of_cell? w _ hx137_1)).trans hx137_1
                            replace p137 := eq_true p137
                            replace q137 := eq_true q137
                            go_wp2_with (first | ((with_reducible refine gate_dst (N := 6) rfl ?_); (try (refine gate_guard (by rfl) ?_; dsimp only)); refine box_event ?hg (N := 6) ?hd (cs := #[.int .i64 0, .int .i64 0]) (t := 53) ?hr ?_; (case hd => rfl); (case hg => rfl); (case hr => first | (go_simp; done) | (go_simp; rfl)); intro gb138 hg w58 hbox hb; have n0_ := Aside0.mk (blk_below (g := gb128) (o := .cells #[.int .i64 a0_0, .int .i64 a0_1, .slice A0_2 l0_2.length c0_2, .slice A0_3 l0_3.length c0_3, .slice (some ad137) l0_4.length c0_4, .int .i64 a0_5, .int .i64 a0_6] 25 (0, 0)) (by (with_reducible repeat (first | refine blk_drewN ?_ _ | refine blk_drew ?_ | refine blk_alloc ?_ _)); exact BK128.out) hb); have n1_ := Aside0.mk (below_step (by repeat (first | (with_reducible first | exact HB.out | apply below_alloc | apply pw_below_drewN | apply below_drew1 | refine below_set ?_ GE128.out) | exact HB.out)) hb); have n2_ := Aside0.mk (hbox); have n3_ := Aside0.mk ((by rw [hg]; exact (below_size (by repeat (first | (with_reducible first | exact HB.out | apply below_alloc | apply pw_below_drewN | apply below_drew1 | refine below_set ?_ GE128.out) | exact HB.out))) : w.heap.size ≤ gb138)); have n4_ := Aside0.mk ((by rw [hg]; exact (below_size (by repeat (first | (with_reducible first | exact HB.out | apply below_alloc | apply pw_below_drewN | apply below_drew1 | refine below_set ?_ GE128.out) | exact HB.out))) : w.heap.size ≤ gb138)); have n5_ := Aside0.mk ((by rw [hg]; exact Nat.ne_of_lt (blk_lt (g := gb128) (o := .cells #[.int .i64 a0_0, .int .i64 a0_1, .slice A0_2 l0_2.length c0_2, .slice A0_3 l0_3.length c0_3, .slice (some ad137) l0_4.length c0_4, .int .i64 a0_5, .int .i64 a0_6] 25 (0, 0)) (by (with_reducible repeat (first | refine blk_drewN ?_ _ | refine blk_drew ?_ | refine blk_alloc ?_ _)); exact BK128.out)) : gb128 ≠ gb138)); have n6_ := Aside0.mk ((by rw [hg]; exact Nat.ne_of_gt (blk_lt (g := gb128) (o := .cells #[.int .i64 a0_0, .int .i64 a0_1, .slice A0_2 l0_2.length c0_2, .slice A0_3 l0_3.length c0_3, .slice (some ad137) l0_4.length c0_4, .int .i64 a0_5, .int .i64 a0_6] 25 (0, 0)) (by (with_reducible repeat (first | refine blk_drewN ?_ _ | refine blk_drew ?_ | refine blk_alloc ?_ _)); exact BK128.out)) : gb138 ≠ gb128)); clear BK128; clear HB; have BK128 := n0_; have HB := n1_; have BK138 := n2_; have GW138 := n3_; have GE138 := n4_; have NB128_138 := n5_; have NB138_128 := n6_; clear n0_ n1_ n2_ n3_ n4_ n5_ n6_; clear hb hbox hg; have hnb59 := NB138_128.out; have hnc59 := NB128_138.out; have hcz60_0 : w58.cell? ⟨gb138, 0, none⟩ = some (.int .i64 0) := (blk_cell BK138.out 0).trans rfl; have hcz60_1 : w58.cell? ⟨gb138, 1, none⟩ = some (.int .i64 0) := (blk_cell BK138.out 1).trans rfl; have hfz60_0 := blk_frozen BK138.out 0; have hfz60_1 := blk_frozen BK138.out 1))
                            repeat (go_quiet (first | ((with_reducible refine gate_dst (N := 6) rfl ?_); (try (refine gate_guard (by rfl) ?_; dsimp only)); refine box_event ?hg (N := 6) ?hd (cs := #[.int .i64 0, .int .i64 0]) (t := 53) ?hr ?_; (case hd => rfl); (case hg => rfl); (case hr => first | (go_simp; done) | (go_simp; rfl)); intro gb138 hg w58 hbox hb; have n0_ := Aside0.mk (blk_below (g := gb128) (o := .cells #[.int .i64 a0_0, .int .i64 a0_1, .slice A0_2 l0_2.length c0_2, .slice A0_3 l0_3.length c0_3, .slice (some ad137) l0_4.length c0_4, .int .i64 a0_5, .int .i64 a0_6] 25 (0, 0)) (by (with_reducible repeat (first | refine blk_drewN ?_ _ | refine blk_drew ?_ | refine blk_alloc ?_ _)); exact BK128.out) hb); have n1_ := Aside0.mk (below_step (by repeat (first | (with_reducible first | exact HB.out | apply below_alloc | apply pw_below_drewN | apply below_drew1 | refine below_set ?_ GE128.out) | exact HB.out)) hb); have n2_ := Aside0.mk (hbox); have n3_ := Aside0.mk ((by rw [hg]; exact (below_size (by repeat (first | (with_reducible first | exact HB.out | apply below_alloc | apply pw_below_drewN | apply below_drew1 | refine below_set ?_ GE128.out) | exact HB.out))) : w.heap.size ≤ gb138)); have n4_ := Aside0.mk ((by rw [hg]; exact (below_size (by repeat (first | (with_reducible first | exact HB.out | apply below_alloc | apply pw_below_drewN | apply below_drew1 | refine below_set ?_ GE128.out) | exact HB.out))) : w.heap.size ≤ gb138)); have n5_ := Aside0.mk ((by rw [hg]; exact Nat.ne_of_lt (blk_lt (g := gb128) (o := .cells #[.int .i64 a0_0, .int .i64 a0_1, .slice A0_2 l0_2.length c0_2, .slice A0_3 l0_3.length c0_3, .slice (some ad137) l0_4.length c0_4, .int .i64 a0_5, .int .i64 a0_6] 25 (0, 0)) (by (with_reducible repeat (first | refine blk_drewN ?_ _ | refine blk_drew ?_ | refine blk_alloc ?_ _)); exact BK128.out)) : gb128 ≠ gb138)); have n6_ := Aside0.mk ((by rw [hg]; exact Nat.ne_of_gt (blk_lt (g := gb128) (o := .cells #[.int .i64 a0_0, .int .i64 a0_1, .slice A0_2 l0_2.length c0_2, .slice A0_3 l0_3.length c0_3, .slice (some ad137) l0_4.length c0_4, .int .i64 a0_5, .int .i64 a0_6] 25 (0, 0)) (by (with_reducible repeat (first | refine blk_drewN ?_ _ | refine blk_drew ?_ | refine blk_alloc ?_ _)); exact BK128.out)) : gb138 ≠ gb128)); clear BK128; clear HB; have BK128 := n0_; have HB := n1_; have BK138 := n2_; have GW138 := n3_; have GE138 := n4_; have NB128_138 := n5_; have NB138_128 := n6_; clear n0_ n1_ n2_ n3_ n4_ n5_ n6_; clear hb hbox hg; have hnb59 := NB138_128.out; have hnc59 := NB128_138.out; have hcz60_0 : w58.cell? ⟨gb138, 0, none⟩ = some (.int .i64 0) := (blk_cell BK138.out 0).trans rfl; have hcz60_1 : w58.cell? ⟨gb138, 1, none⟩ = some (.int .i64 0) := (blk_cell BK138.out 1).trans rfl; have hfz60_0 := blk_frozen BK138.out 0; have hfz60_1 := blk_frozen BK138.out 1)); try go_wp2_with (first | ((with_reducible refine gate_dst (N := 6) rfl ?_); (try (refine gate_guard (by rfl) ?_; dsimp only)); refine box_event ?hg (N := 6) ?hd (cs := #[.int .i64 0, .int .i64 0]) (t := 53) ?hr ?_; (case hd => rfl); (case hg => rfl); (case hr => first | (go_simp; done) | (go_simp; rfl)); intro gb138 hg w58 hbox hb; have n0_ := Aside0.mk (blk_below (g := gb128) (o := .cells #[.int .i64 a0_0, .int .i64 a0_1, .slice A0_2 l0_2.length c0_2, .slice A0_3 l0_3.length c0_3, .slice (some ad137) l0_4.length c0_4, .int .i64 a0_5, .int .i64 a0_6] 25 (0, 0)) (by (with_reducible repeat (first | refine blk_drewN ?_ _ | refine blk_drew ?_ | refine blk_alloc ?_ _)); exact BK128.out) hb); have n1_ := Aside0.mk (below_step (by repeat (first | (with_reducible first | exact HB.out | apply below_alloc | apply pw_below_drewN | apply below_drew1 | refine below_set ?_ GE128.out) | exact HB.out)) hb); have n2_ := Aside0.mk (hbox); have n3_ := Aside0.mk ((by rw [hg]; exact (below_size (by repeat (first | (with_reducible first | exact HB.out | apply below_alloc | apply pw_below_drewN | apply below_drew1 | refine below_set ?_ GE128.out) | exact HB.out))) : w.heap.size ≤ gb138)); have n4_ := Aside0.mk ((by rw [hg]; exact (below_size (by repeat (first | (with_reducible first | exact HB.out | apply below_alloc | apply pw_below_drewN | apply below_drew1 | refine below_set ?_ GE128.out) | exact HB.out))) : w.heap.size ≤ gb138)); have n5_ := Aside0.mk ((by rw [hg]; exact Nat.ne_of_lt (blk_lt (g := gb128) (o := .cells #[.int .i64 a0_0, .int .i64 a0_1, .slice A0_2 l0_2.length c0_2, .slice A0_3 l0_3.length c0_3, .slice (some ad137) l0_4.length c0_4, .int .i64 a0_5, .int .i64 a0_6] 25 (0, 0)) (by (with_reducible repeat (first | refine blk_drewN ?_ _ | refine blk_drew ?_ | refine blk_alloc ?_ _)); exact BK128.out)) : gb128 ≠ gb138)); have n6_ := Aside0.mk ((by rw [hg]; exact Nat.ne_of_gt (blk_lt (g := gb128) (o := .cells #[.int .i64 a0_0, .int .i64 a0_1, .slice A0_2 l0_2.length c0_2, .slice A0_3 l0_3.length c0_3, .slice (some ad137) l0_4.length c0_4, .int .i64 a0_5, .int .i64 a0_6] 25 (0, 0)) (by (with_reducible repeat (first | refine blk_drewN ?_ _ | refine blk_drew ?_ | refine blk_alloc ?_ _)); exact BK128.out)) : gb138 ≠ gb128)); clear BK128; clear HB; have BK128 := n0_; have HB := n1_; have BK138 := n2_; have GW138 := n3_; have GE138 := n4_; have NB128_138 := n5_; have NB138_128 := n6_; clear n0_ n1_ n2_ n3_ n4_ n5_ n6_; clear hb hbox hg; have hnb59 := NB138_128.out; have hnc59 := NB128_138.out; have hcz60_0 : w58.cell? ⟨gb138, 0, none⟩ = some (.int .i64 0) := (blk_cell BK138.out 0).trans rfl; have hcz60_1 : w58.cell? ⟨gb138, 1, none⟩ = some (.int .i64 0) := (blk_cell BK138.out 1).trans rfl; have hfz60_0 := blk_frozen BK138.out 0; have hfz60_1 := blk_frozen BK138.out 1)))
                            go_ret
                            exact ⟨by first | rfl | (simp [errW_none, errW_some] <;> rfl) | (simp [*, errW_none, errW_some] <;> rfl), by repeat (first | (with_reducible first | exact HB.out | apply below_alloc | apply pw_below_drewN | apply below_drew1 | refine below_set ?_ GE128.out | refine below_set ?_ GE138.out) | exact HB.out)⟩
                          · rw [if_neg c56] at H
                            have c56b0 : decide (((rd_T53 l0_4 x5_3).f1) < 0) = false := decide_eq_false c56
                            clear c56
                            by_cases c61 : ((rd_T53 l0_4 x5_3).f1) ≥ (l0_2.length : Int)
                            · rw [if_pos c61] at H
                              have c61b0 : decide ((l0_2.length : Int) ≤ ((rd_T53 l0_4 x5_3).f1)) = true := decide_eq_true c61
                              clear c61
                              obtain rfl := Option.some.inj H
                              have hcz62_0 : wr.cell? ⟨gb128, 0, none⟩ = some (.int .i64 a0_0) := (blk_cell BK128.out 0).trans rfl
                              have hcz62_1 : wr.cell? ⟨gb128, 1, none⟩ = some (.int .i64 a0_1) := (blk_cell BK128.out 1).trans rfl
                              have hcz62_2 : wr.cell? ⟨gb128, 2, none⟩ = some (.slice A0_2 l0_2.length c0_2) := (blk_cell BK128.out 2).trans rfl
                              have hcz62_3 : wr.cell? ⟨gb128, 3, none⟩ = some (.slice A0_3 l0_3.length c0_3) := (blk_cell BK128.out 3).trans rfl
                              have hcz62_4 : wr.cell? ⟨gb128, 4, none⟩ = some (.slice A0_4 l0_4.length c0_4) := (blk_cell BK128.out 4).trans rfl
                              have hcz62_5 : wr.cell? ⟨gb128, 5, none⟩ = some (.int .i64 a0_5) := (blk_cell BK128.out 5).trans rfl
                              have hcz62_6 : wr.cell? ⟨gb128, 6, none⟩ = some (.int .i64 a0_6) := (blk_cell BK128.out 6).trans rfl
                              have hfz62_0 := blk_frozen BK128.out 0
                              have hfz62_1 := blk_frozen BK128.out 1
                              have hfz62_2 := blk_frozen BK128.out 2
                              have hfz62_3 := blk_frozen BK128.out 3
                              have hfz62_4 := blk_frozen BK128.out 4
                              have hfz62_5 := blk_frozen BK128.out 5
                              have hfz62_6 := blk_frozen BK128.out 6
                              have p137 : 0 ≤ (x5_3 : Int) := of_decide_eq_true (by first | (with_reducible assumption) | assumption)
                              have q137 : x5_3 < (l0_4.length : Int) := of_decide_eq_true (by first | (with_reducible assumption) | assumption)
                              obtain ⟨ad137, e137, hx137_0, hx137_1⟩ := at_T53 HR0_4.out x5_3 p137 q137
                              cases e137
                              replace hx137_0 := (HB.out.cell (World.block_lt_of_cell? w _ hx137_0)).trans hx137_0
                              replace hx137_1 := (HB.out.cell (World.block_lt_of_cell? w _ hx137_1)).trans hx137_1
                              replace p137 := eq_true p137
                              replace q137 := eq_true q137
                              go_wp2_with (first | ((with_reducible refine gate_dst (N := 6) rfl ?_); (try (refine gate_guard (by rfl) ?_; dsimp only)); refine box_event ?hg (N := 6) ?hd (cs := #[.int .i64 0, .int .i64 0]) (t := 53) ?hr ?_; (case hd => rfl); (case hg => rfl); (case hr => first | (go_simp; done) | (go_simp; rfl)); intro gb138 hg w63 hbox hb; have n0_ := Aside0.mk (blk_below (g := gb128) (o := .cells #[.int .i64 a0_0, .int .i64 a0_1, .slice A0_2 l0_2.length c0_2, .slice A0_3 l0_3.length c0_3, .slice (some ad137) l0_4.length c0_4, .int .i64 a0_5, .int .i64 a0_6] 25 (0, 0)) (by (with_reducible repeat (first | refine blk_drewN ?_ _ | refine blk_drew ?_ | refine blk_alloc ?_ _)); exact BK128.out) hb); have n1_ := Aside0.mk (below_step (by repeat (first | (with_reducible first | exact HB.out | apply below_alloc | apply pw_below_drewN | apply below_drew1 | refine below_set ?_ GE128.out) | exact HB.out)) hb); have n2_ := Aside0.mk (hbox); have n3_ := Aside0.mk ((by rw [hg]; exact (below_size (by repeat (first | (with_reducible first | exact HB.out | apply below_alloc | apply pw_below_drewN | apply below_drew1 | refine below_set ?_ GE128.out) | exact HB.out))) : w.heap.size ≤ gb138)); have n4_ := Aside0.mk ((by rw [hg]; exact (below_size (by repeat (first | (with_reducible first | exact HB.out | apply below_alloc | apply pw_below_drewN | apply below_drew1 | refine below_set ?_ GE128.out) | exact HB.out))) : w.heap.size ≤ gb138)); have n5_ := Aside0.mk ((by rw [hg]; exact Nat.ne_of_lt (blk_lt (g := gb128) (o := .cells #[.int .i64 a0_0, .int .i64 a0_1, .slice A0_2 l0_2.length c0_2, .slice A0_3 l0_3.length c0_3, .slice (some ad137) l0_4.length c0_4, .int .i64 a0_5, .int .i64 a0_6] 25 (0, 0)) (by (with_reducible repeat (first | refine blk_drewN ?_ _ | refine blk_drew ?_ | refine blk_alloc ?_ _)); exact BK128.out)) : gb128 ≠ gb138)); have n6_ := Aside0.mk ((by rw [hg]; exact Nat.ne_of_gt (blk_lt (g := gb128) (o := .cells #[.int .i64 a0_0, .int .i64 a0_1, .slice A0_2 l0_2.length c0_2, .slice A0_3 l0_3.length c0_3, .slice (some ad137) l0_4.length c0_4, .int .i64 a0_5, .int .i64 a0_6] 25 (0, 0)) (by (with_reducible repeat (first | refine blk_drewN ?_ _ | refine blk_drew ?_ | refine blk_alloc ?_ _)); exact BK128.out)) : gb138 ≠ gb128)); clear BK128; clear HB; have BK128 := n0_; have HB := n1_; have BK138 := n2_; have GW138 := n3_; have GE138 := n4_; have NB128_138 := n5_; have NB138_128 := n6_; clear n0_ n1_ n2_ n3_ n4_ n5_ n6_; clear hb hbox hg; have hnb64 := NB138_128.out; have hnc64 := NB128_138.out; have hcz65_0 : w63.cell? ⟨gb138, 0, none⟩ = some (.int .i64 0) := (blk_cell BK138.out 0).trans rfl; have hcz65_1 : w63.cell? ⟨gb138, 1, none⟩ = some (.int .i64 0) := (blk_cell BK138.out 1).trans rfl; have hfz65_0 := blk_frozen BK138.out 0; have hfz65_1 := blk_frozen BK138.out 1))
                              repeat (go_quiet (first | ((with_reducible refine gate_dst (N := 6) rfl ?_); (try (refine gate_guard (by rfl) ?_; dsimp only)); refine box_event ?hg (N := 6) ?hd (cs := #[.int .i64 0, .int .i64 0]) (t := 53) ?hr ?_; (case hd => rfl); (case hg => rfl); (case hr => first | (go_simp; done) | (go_simp; rfl)); intro gb138 hg w63 hbox hb; have n0_ := Aside0.mk (blk_below (g := gb128) (o := .cells #[.int .i64 a0_0, .int .i64 a0_1, .slice A0_2 l0_2.length c0_2, .slice A0_3 l0_3.length c0_3, .slice (some ad137) l0_4.length c0_4, .int .i64 a0_5, .int .i64 a0_6] 25 (0, 0)) (by (with_reducible repeat (first | refine blk_drewN ?_ _ | refine blk_drew ?_ | refine blk_alloc ?_ _)); exact BK128.out) hb); have n1_ := Aside0.mk (below_step (by repeat (first | (with_reducible first | exact HB.out | apply below_alloc | apply pw_below_drewN | apply below_drew1 | refine below_set ?_ GE128.out) | exact HB.out)) hb); have n2_ := Aside0.mk (hbox); have n3_ := Aside0.mk ((by rw [hg]; exact (below_size (by repeat (first | (with_reducible first | exact HB.out | apply below_alloc | apply pw_below_drewN | apply below_drew1 | refine below_set ?_ GE128.out) | exact HB.out))) : w.heap.size ≤ gb138)); have n4_ := Aside0.mk ((by rw [hg]; exact (below_size (by repeat (first | (with_reducible first | exact HB.out | apply below_alloc | apply pw_below_drewN | apply below_drew1 | refine below_set ?_ GE128.out) | exact HB.out))) : w.heap.size ≤ gb138)); have n5_ := Aside0.mk ((by rw [hg]; exact Nat.ne_of_lt (blk_lt (g := gb128) (o := .cells #[.int .i64 a0_0, .int .i64 a0_1, .slice A0_2 l0_2.length c0_2, .slice A0_3 l0_3.length c0_3, .slice (some ad137) l0_4.length c0_4, .int .i64 a0_5, .int .i64 a0_6] 25 (0, 0)) (by (with_reducible repeat (first | refine blk_drewN ?_ _ | refine blk_drew ?_ | refine blk_alloc ?_ _)); exact BK128.out)) : gb128 ≠ gb138)); have n6_ := Aside0.mk ((by rw [hg]; exact Nat.ne_of_gt (blk_lt (g := gb128) (o := .cells #[.int .i64 a0_0, .int .i64 a0_1, .slice A0_2 l0_2.length c0_2, .slice A0_3 l0_3.length c0_3, .slice (some ad137) l0_4.length c0_4, .int .i64 a0_5, .int .i64 a0_6] 25 (0, 0)) (by (with_reducible repeat (first | refine blk_drewN ?_ _ | refine blk_drew ?_ | refine blk_alloc ?_ _)); exact BK128.out)) : gb138 ≠ gb128)); clear BK128; clear HB; have BK128 := n0_; have HB := n1_; have BK138 := n2_; have GW138 := n3_; have GE138 := n4_; have NB128_138 := n5_; have NB138_128 := n6_; clear n0_ n1_ n2_ n3_ n4_ n5_ n6_; clear hb hbox hg; have hnb64 := NB138_128.out; have hnc64 := NB128_138.out; have hcz65_0 : w63.cell? ⟨gb138, 0, none⟩ = some (.int .i64 0) := (blk_cell BK138.out 0).trans rfl; have hcz65_1 : w63.cell? ⟨gb138, 1, none⟩ = some (.int .i64 0) := (blk_cell BK138.out 1).trans rfl; have hfz65_0 := blk_frozen BK138.out 0; have hfz65_1 := blk_frozen BK138.out 1)); try go_wp2_with (first | ((with_reducible refine gate_dst (N := 6) rfl ?_); (try (refine gate_guard (by rfl) ?_; dsimp only)); refine box_event ?hg (N := 6) ?hd (cs := #[.int .i64 0, .int .i64 0]) (t := 53) ?hr ?_; (case hd => rfl); (case hg => rfl); (case hr => first | (go_simp; done) | (go_simp; rfl)); intro gb138 hg w63 hbox hb; have n0_ := Aside0.mk (blk_below (g := gb128) (o := .cells #[.int .i64 a0_0, .int .i64 a0_1, .slice A0_2 l0_2.length c0_2, .slice A0_3 l0_3.length c0_3, .slice (some ad137) l0_4.length c0_4, .int .i64 a0_5, .int .i64 a0_6] 25 (0, 0)) (by (with_reducible repeat (first | refine blk_drewN ?_ _ | refine blk_drew ?_ | refine blk_alloc ?_ _)); exact BK128.out) hb); have n1_ := Aside0.mk (below_step (by repeat (first | (with_reducible first | exact HB.out | apply below_alloc | apply pw_below_drewN | apply below_drew1 | refine below_set ?_ GE128.out) | exact HB.out)) hb); have n2_ := Aside0.mk (hbox); have n3_ := Aside0.mk ((by rw [hg]; exact (below_size (by repeat (first | (with_reducible first | exact HB.out | apply below_alloc | apply pw_below_drewN | apply below_drew1 | refine below_set ?_ GE128.out) | exact HB.out))) : w.heap.size ≤ gb138)); have n4_ := Aside0.mk ((by rw [hg]; exact (below_size (by repeat (first | (with_reducible first | exact HB.out | apply below_alloc | apply pw_below_drewN | apply below_drew1 | refine below_set ?_ GE128.out) | exact HB.out))) : w.heap.size ≤ gb138)); have n5_ := Aside0.mk ((by rw [hg]; exact Nat.ne_of_lt (blk_lt (g := gb128) (o := .cells #[.int .i64 a0_0, .int .i64 a0_1, .slice A0_2 l0_2.length c0_2, .slice A0_3 l0_3.length c0_3, .slice (some ad137) l0_4.length c0_4, .int .i64 a0_5, .int .i64 a0_6] 25 (0, 0)) (by (with_reducible repeat (first | refine blk_drewN ?_ _ | refine blk_drew ?_ | refine blk_alloc ?_ _)); exact BK128.out)) : gb128 ≠ gb138)); have n6_ := Aside0.mk ((by rw [hg]; exact Nat.ne_of_gt (blk_lt (g := gb128) (o := .cells #[.int .i64 a0_0, .int .i64 a0_1, .slice A0_2 l0_2.length c0_2, .slice A0_3 l0_3.length c0_3, .slice (some ad137) l0_4.length c0_4, .int .i64 a0_5, .int .i64 a0_6] 25 (0, 0)) (by (with_reducible repeat (first | refine blk_drewN ?_ _ | refine blk_drew ?_ | refine blk_alloc ?_ _)); exact BK128.out)) : gb138 ≠ gb128)); clear BK128; clear HB; have BK128 := n0_; have HB := n1_; have BK138 := n2_; have GW138 := n3_; have GE138 := n4_; have NB128_138 := n5_; have NB138_128 := n6_; clear n0_ n1_ n2_ n3_ n4_ n5_ n6_; clear hb hbox hg; have hnb64 := NB138_128.out; have hnc64 := NB128_138.out; have hcz65_0 : w63.cell? ⟨gb138, 0, none⟩ = some (.int .i64 0) := (blk_cell BK138.out 0).trans rfl; have hcz65_1 : w63.cell? ⟨gb138, 1, none⟩ = some (.int .i64 0) := (blk_cell BK138.out 1).trans rfl; have hfz65_0 := blk_frozen BK138.out 0; have hfz65_1 := blk_frozen BK138.out 1)))
                              go_ret
                              exact ⟨by first | rfl | (simp [errW_none, errW_some] <;> rfl) | (simp [*, errW_none, errW_some] <;> rfl), by repeat (first | (with_reducible first | exact HB.out | apply below_alloc | apply pw_below_drewN | apply below_drew1 | refine below_set ?_ GE128.out | refine below_set ?_ GE138.out) | exact HB.out)⟩
                            · rw [if_neg c61] at H
                              have c61b0 : decide ((l0_2.length : Int) ≤ ((rd_T53 l0_4 x5_3).f1)) = false := decide_eq_false c61
                              clear c61
                              by_cases c66 : ((rd_T53 l0_4 x5_3).f0) = ((rd_T53 l0_4 x5_3).f1)
                              · rw [if_pos c66] at H
                                have c66b0 : (((rd_T53 l0_4 x5_3).f0) == ((rd_T53 l0_4 x5_3).f1)) = true := beq_iff_eq.mpr c66
                                have c66b1 : (((rd_T53 l0_4 x5_3).f0) != ((rd_T53 l0_4 x5_3).f1)) = false := bne_eq_false_iff_eq.mpr c66
                                clear c66
                                obtain rfl := Option.some.inj H
                                have hcz67_0 : wr.cell? ⟨gb128, 0, none⟩ = some (.int .i64 a0_0) := (blk_cell BK128.out 0).trans rfl
                                have hcz67_1 : wr.cell? ⟨gb128, 1, none⟩ = some (.int .i64 a0_1) := (blk_cell BK128.out 1).trans rfl
                                have hcz67_2 : wr.cell? ⟨gb128, 2, none⟩ = some (.slice A0_2 l0_2.length c0_2) := (blk_cell BK128.out 2).trans rfl
                                have hcz67_3 : wr.cell? ⟨gb128, 3, none⟩ = some (.slice A0_3 l0_3.length c0_3) := (blk_cell BK128.out 3).trans rfl
                                have hcz67_4 : wr.cell? ⟨gb128, 4, none⟩ = some (.slice A0_4 l0_4.length c0_4) := (blk_cell BK128.out 4).trans rfl
                                have hcz67_5 : wr.cell? ⟨gb128, 5, none⟩ = some (.int .i64 a0_5) := (blk_cell BK128.out 5).trans rfl
                                have hcz67_6 : wr.cell? ⟨gb128, 6, none⟩ = some (.int .i64 a0_6) := (blk_cell BK128.out 6).trans rfl
                                have hfz67_0 := blk_frozen BK128.out 0
                                have hfz67_1 := blk_frozen BK128.out 1
                                have hfz67_2 := blk_frozen BK128.out 2
                                have hfz67_3 := blk_frozen BK128.out 3
                                have hfz67_4 := blk_frozen BK128.out 4
                                have hfz67_5 := blk_frozen BK128.out 5
                                have hfz67_6 := blk_frozen BK128.out 6
                                have p137 : 0 ≤ (x5_3 : Int) := of_decide_eq_true (by first | (with_reducible assumption) | assumption)
                                have q137 : x5_3 < (l0_4.length : Int) := of_decide_eq_true (by first | (with_reducible assumption) | assumption)
                                obtain ⟨ad137, e137, hx137_0, hx137_1⟩ := at_T53 HR0_4.out x5_3 p137 q137
                                cases e137
                                replace hx137_0 := (HB.out.cell (World.block_lt_of_cell? w _ hx137_0)).trans hx137_0
                                replace hx137_1 := (HB.out.cell (World.block_lt_of_cell? w _ hx137_1)).trans hx137_1
                                replace p137 := eq_true p137
                                replace q137 := eq_true q137
                                go_wp2_with (first | ((with_reducible refine gate_dst (N := 6) rfl ?_); (try (refine gate_guard (by rfl) ?_; dsimp only)); refine box_event ?hg (N := 6) ?hd (cs := #[.int .i64 0, .int .i64 0]) (t := 53) ?hr ?_; (case hd => rfl); (case hg => rfl); (case hr => first | (go_simp; done) | (go_simp; rfl)); intro gb138 hg w68 hbox hb; have n0_ := Aside0.mk (blk_below (g := gb128) (o := .cells #[.int .i64 a0_0, .int .i64 a0_1, .slice A0_2 l0_2.length c0_2, .slice A0_3 l0_3.length c0_3, .slice (some ad137) l0_4.length c0_4, .int .i64 a0_5, .int .i64 a0_6] 25 (0, 0)) (by (with_reducible repeat (first | refine blk_drewN ?_ _ | refine blk_drew ?_ | refine blk_alloc ?_ _)); exact BK128.out) hb); have n1_ := Aside0.mk (below_step (by repeat (first | (with_reducible first | exact HB.out | apply below_alloc | apply pw_below_drewN | apply below_drew1 | refine below_set ?_ GE128.out) | exact HB.out)) hb); have n2_ := Aside0.mk (hbox); have n3_ := Aside0.mk ((by rw [hg]; exact (below_size (by repeat (first | (with_reducible first | exact HB.out | apply below_alloc | apply pw_below_drewN | apply below_drew1 | refine below_set ?_ GE128.out) | exact HB.out))) : w.heap.size ≤ gb138)); have n4_ := Aside0.mk ((by rw [hg]; exact (below_size (by repeat (first | (with_reducible first | exact HB.out | apply below_alloc | apply pw_below_drewN | apply below_drew1 | refine below_set ?_ GE128.out) | exact HB.out))) : w.heap.size ≤ gb138)); have n5_ := Aside0.mk ((by rw [hg]; exact Nat.ne_of_lt (blk_lt (g := gb128) (o := .cells #[.int .i64 a0_0, .int .i64 a0_1, .slice A0_2 l0_2.length c0_2, .slice A0_3 l0_3.length c0_3, .slice (some ad137) l0_4.length c0_4, .int .i64 a0_5, .int .i64 a0_6] 25 (0, 0)) (by (with_reducible repeat (first | refine blk_drewN ?_ _ | refine blk_drew ?_ | refine blk_alloc ?_ _)); exact BK128.out)) : gb128 ≠ gb138)); have n6_ := Aside0.mk ((by rw [hg]; exact Nat.ne_of_gt (blk_lt (g := gb128) (o := .cells #[.int .i64 a0_0, .int .i64 a0_1, .slice A0_2 l0_2.length c0_2, .slice A0_3 l0_3.length c0_3, .slice (some ad137) l0_4.length c0_4, .int .i64 a0_5, .int .i64 a0_6] 25 (0, 0)) (by (with_reducible repeat (first | refine blk_drewN ?_ _ | refine blk_drew ?_ | refine blk_alloc ?_ _)); exact BK128.out)) : gb138 ≠ gb128)); clear BK128; clear HB; have BK128 := n0_; have HB := n1_; have BK138 := n2_; have GW138 := n3_; have GE138 := n4_; have NB128_138 := n5_; have NB138_128 := n6_; clear n0_ n1_ n2_ n3_ n4_ n5_ n6_; clear hb hbox hg; have hnb69 := NB138_128.out; have hnc69 := NB128_138.out; have hcz70_0 : w68.cell? ⟨gb138, 0, none⟩ = some (.int .i64 0) := (blk_cell BK138.out 0).trans rfl; have hcz70_1 : w68.cell? ⟨gb138, 1, none⟩ = some (.int .i64 0) := (blk_cell BK138.out 1).trans rfl; have hfz70_0 := blk_frozen BK138.out 0; have hfz70_1 := blk_frozen BK138.out 1))
                                repeat (go_quiet (first | ((with_reducible refine gate_dst (N := 6) rfl ?_); (try (refine gate_guard (by rfl) ?_; dsimp only)); refine box_event ?hg (N := 6) ?hd (cs := #[.int .i64 0, .int .i64 0]) (t := 53) ?hr ?_; (case hd => rfl); (case hg => rfl); (case hr => first | (go_simp; done) | (go_simp; rfl)); intro gb138 hg w68 hbox hb; have n0_ := Aside0.mk (blk_below (g := gb128) (o := .cells #[.int .i64 a0_0, .int .i64 a0_1, .slice A0_2 l0_2.length c0_2, .slice A0_3 l0_3.length c0_3, .slice (some ad137) l0_4.length c0_4, .int .i64 a0_5, .int .i64 a0_6] 25 (0, 0)) (by (with_reducible repeat (first | refine blk_drewN ?_ _ | refine blk_drew ?_ | refine blk_alloc ?_ _)); exact BK128.out) hb); have n1_ := Aside0.mk (below_step (by repeat (first | (with_reducible first | exact HB.out | apply below_alloc | apply pw_below_drewN | apply below_drew1 | refine below_set ?_ GE128.out) | exact HB.out)) hb); have n2_ := Aside0.mk (hbox); have n3_ := Aside0.mk ((by rw [hg]; exact (below_size (by repeat (first | (with_reducible first | exact HB.out | apply below_alloc | apply pw_below_drewN | apply below_drew1 | refine below_set ?_ GE128.out) | exact HB.out))) : w.heap.size ≤ gb138)); have n4_ := Aside0.mk ((by rw [hg]; exact (below_size (by repeat (first | (with_reducible first | exact HB.out | apply below_alloc | apply pw_below_drewN | apply below_drew1 | refine below_set ?_ GE128.out) | exact HB.out))) : w.heap.size ≤ gb138)); have n5_ := Aside0.mk ((by rw [hg]; exact Nat.ne_of_lt (blk_lt (g := gb128) (o := .cells #[.int .i64 a0_0, .int .i64 a0_1, .slice A0_2 l0_2.length c0_2, .slice A0_3 l0_3.length c0_3, .slice (some ad137) l0_4.length c0_4, .int .i64 a0_5, .int .i64 a0_6] 25 (0, 0)) (by (with_reducible repeat (first | refine blk_drewN ?_ _ | refine blk_drew ?_ | refine blk_alloc ?_ _)); exact BK128.out)) : gb128 ≠ gb138)); have n6_ := Aside0.mk ((by rw [hg]; exact Nat.ne_of_gt (blk_lt (g := gb128) (o := .cells #[.int .i64 a0_0, .int .i64 a0_1, .slice A0_2 l0_2.length c0_2, .slice A0_3 l0_3.length c0_3, .slice (some ad137) l0_4.length c0_4, .int .i64 a0_5, .int .i64 a0_6] 25 (0, 0)) (by (with_reducible repeat (first | refine blk_drewN ?_ _ | refine blk_drew ?_ | refine blk_alloc ?_ _)); exact BK128.out)) : gb138 ≠ gb128)); clear BK128; clear HB; have BK128 := n0_; have HB := n1_; have BK138 := n2_; have GW138 := n3_; have GE138 := n4_; have NB128_138 := n5_; have NB138_128 := n6_; clear n0_ n1_ n2_ n3_ n4_ n5_ n6_; clear hb hbox hg; have hnb69 := NB138_128.out; have hnc69 := NB128_138.out; have hcz70_0 : w68.cell? ⟨gb138, 0, none⟩ = some (.int .i64 0) := (blk_cell BK138.out 0).trans rfl; have hcz70_1 : w68.cell? ⟨gb138, 1, none⟩ = some (.int .i64 0) := (blk_cell BK138.out 1).trans rfl; have hfz70_0 := blk_frozen BK138.out 0; have hfz70_1 := blk_frozen BK138.out 1)); try go_wp2_with (first | ((with_reducible refine gate_dst (N := 6) rfl ?_); (try (refine gate_guard (by rfl) ?_; dsimp only)); refine box_event ?hg (N := 6) ?hd (cs := #[.int .i64 0, .int .i64 0]) (t := 53) ?hr ?_; (case hd => rfl); (case hg => rfl); (case hr => first | (go_simp; done) | (go_simp; rfl)); intro gb138 hg w68 hbox hb; have n0_ := Aside0.mk (blk_below (g := gb128) (o := .cells #[.int .i64 a0_0, .int .i64 a0_1, .slice A0_2 l0_2.length c0_2, .slice A0_3 l0_3.length c0_3, .slice (some ad137) l0_4.length c0_4, .int .i64 a0_5, .int .i64 a0_6] 25 (0, 0)) (by (with_reducible repeat (first | refine blk_drewN ?_ _ | refine blk_drew ?_ | refine blk_alloc ?_ _)); exact BK128.out) hb); have n1_ := Aside0.mk (below_step (by repeat (first | (with_reducible first | exact HB.out | apply below_alloc | apply pw_below_drewN | apply below_drew1 | refine below_set ?_ GE128.out) | exact HB.out)) hb); have n2_ := Aside0.mk (hbox); have n3_ := Aside0.mk ((by rw [hg]; exact (below_size (by repeat (first | (with_reducible first | exact HB.out | apply below_alloc | apply pw_below_drewN | apply below_drew1 | refine below_set ?_ GE128.out) | exact HB.out))) : w.heap.size ≤ gb138)); have n4_ := Aside0.mk ((by rw [hg]; exact (below_size (by repeat (first | (with_reducible first | exact HB.out | apply below_alloc | apply pw_below_drewN | apply below_drew1 | refine below_set ?_ GE128.out) | exact HB.out))) : w.heap.size ≤ gb138)); have n5_ := Aside0.mk ((by rw [hg]; exact Nat.ne_of_lt (blk_lt (g := gb128) (o := .cells #[.int .i64 a0_0, .int .i64 a0_1, .slice A0_2 l0_2.length c0_2, .slice A0_3 l0_3.length c0_3, .slice (some ad137) l0_4.length c0_4, .int .i64 a0_5, .int .i64 a0_6] 25 (0, 0)) (by (with_reducible repeat (first | refine blk_drewN ?_ _ | refine blk_drew ?_ | refine blk_alloc ?_ _)); exact BK128.out)) : gb128 ≠ gb138)); have n6_ := Aside0.mk ((by rw [hg]; exact Nat.ne_of_gt (blk_lt (g := gb128) (o := .cells #[.int .i64 a0_0, .int .i64 a0_1, .slice A0_2 l0_2.length c0_2, .slice A0_3 l0_3.length c0_3, .slice (some ad137) l0_4.length c0_4, .int .i64 a0_5, .int .i64 a0_6] 25 (0, 0)) (by (with_reducible repeat (first | refine blk_drewN ?_ _ | refine blk_drew ?_ | refine blk_alloc ?_ _)); exact BK128.out)) : gb138 ≠ gb128)); clear BK128; clear HB; have BK128 := n0_; have HB := n1_; have BK138 := n2_; have GW138 := n3_; have GE138 := n4_; have NB128_138 := n5_; have NB138_128 := n6_; clear n0_ n1_ n2_ n3_ n4_ n5_ n6_; clear hb hbox hg; have hnb69 := NB138_128.out; have hnc69 := NB128_138.out; have hcz70_0 : w68.cell? ⟨gb138, 0, none⟩ = some (.int .i64 0) := (blk_cell BK138.out 0).trans rfl; have hcz70_1 : w68.cell? ⟨gb138, 1, none⟩ = some (.int .i64 0) := (blk_cell BK138.out 1).trans rfl; have hfz70_0 := blk_frozen BK138.out 0; have hfz70_1 := blk_frozen BK138.out 1)))
                                go_ret
                                exact ⟨by first | rfl | (simp [errW_none, errW_some] <;> rfl) | (simp [*, errW_none, errW_some] <;> rfl), by repeat (first | (with_reducible first | exact HB.out | apply below_alloc | apply pw_below_drewN | apply below_drew1 | refine below_set ?_ GE128.out | refine below_set ?_ GE138.out) | exact HB.out)⟩
                              · rw [if_neg c66] at H
                                have c66b0 : (((rd_T53 l0_4 x5_3).f0) == ((rd_T53 l0_4 x5_3).f1)) = false := beq_eq_false_iff_ne.mpr c66
                                have c66b1 : (((rd_T53 l0_4 x5_3).f0) != ((rd_T53 l0_4 x5_3).f1)) = true := bne_iff_ne.mpr c66
                                have H' := Aside0.mk H
                                clear H
                                have hcz71_0 : wr.cell? ⟨gb128, 0, none⟩ = some (.int .i64 a0_0) := (blk_cell BK128.out 0).trans rfl
                                have hcz71_1 : wr.cell? ⟨gb128, 1, none⟩ = some (.int .i64 a0_1) := (blk_cell BK128.out 1).trans rfl
                                have hcz71_2 : wr.cell? ⟨gb128, 2, none⟩ = some (.slice A0_2 l0_2.length c0_2) := (blk_cell BK128.out 2).trans rfl
                                have hcz71_3 : wr.cell? ⟨gb128, 3, none⟩ = some (.slice A0_3 l0_3.length c0_3) := (blk_cell BK128.out 3).trans rfl
                                have hcz71_4 : wr.cell? ⟨gb128, 4, none⟩ = some (.slice A0_4 l0_4.length c0_4) := (blk_cell BK128.out 4).trans rfl
                                have hcz71_5 : wr.cell? ⟨gb128, 5, none⟩ = some (.int .i64 a0_5) := (blk_cell BK128.out 5).trans rfl
                                have hcz71_6 : wr.cell? ⟨gb128, 6, none⟩ = some (.int .i64 a0_6) := (blk_cell BK128.out 6).trans rfl
                                have hfz71_0 := blk_frozen BK128.out 0
                                have hfz71_1 := blk_frozen BK128.out 1
                                have hfz71_2 := blk_frozen BK128.out 2
                                have hfz71_3 := blk_frozen BK128.out 3
                                have hfz71_4 := blk_frozen BK128.out 4
                                have hfz71_5 := blk_frozen BK128.out 5
                                have hfz71_6 := blk_frozen BK128.out 6
                                have p137 : 0 ≤ (x5_3 : Int) := of_decide_eq_true (by first | (with_reducible assumption) | assumption)
                                have q137 : x5_3 < (l0_4.length : Int) := of_decide_eq_true (by first | (with_reducible assumption) | assumption)
                                obtain ⟨ad137, e137, hx137_0, hx137_1⟩ := at_T53 HR0_4.out x5_3 p137 q137
                                cases e137
                                replace hx137_0 := (HB.out.cell (World.block_lt_of_cell? w _ hx137_0)).trans hx137_0
                                replace hx137_1 := (HB.out.cell (World.block_lt_of_cell? w _ hx137_1)).trans hx137_1
                                replace p137 := eq_true p137
                                replace q137 := eq_true q137
                                go_wp2_with (first | ((with_reducible refine gate_dst (N := 6) rfl ?_); (try (refine gate_guard (by rfl) ?_; dsimp only)); refine box_event ?hg (N := 6) ?hd (cs := #[.int .i64 0, .int .i64 0]) (t := 53) ?hr ?_; (case hd => rfl); (case hg => rfl); (case hr => first | (go_simp; done) | (go_simp; rfl)); intro gb138 hg w72 hbox hb; have n0_ := Aside0.mk (blk_below (g := gb128) (o := .cells #[.int .i64 a0_0, .int .i64 a0_1, .slice A0_2 l0_2.length c0_2, .slice A0_3 l0_3.length c0_3, .slice (some ad137) l0_4.length c0_4, .int .i64 a0_5, .int .i64 a0_6] 25 (0, 0)) (by (with_reducible repeat (first | refine blk_drewN ?_ _ | refine blk_drew ?_ | refine blk_alloc ?_ _)); exact BK128.out) hb); have n1_ := Aside0.mk (below_step (by repeat (first | (with_reducible first | exact HB.out | apply below_alloc | apply pw_below_drewN | apply below_drew1 | refine below_set ?_ GE128.out) | exact HB.out)) hb); have n2_ := Aside0.mk (hbox); have n3_ := Aside0.mk ((by rw [hg]; exact (below_size (by repeat (first | (with_reducible first | exact HB.out | apply below_alloc | apply pw_below_drewN | apply below_drew1 | refine below_set ?_ GE128.out) | exact HB.out))) : w.heap.size ≤ gb138)); have n4_ := Aside0.mk ((by rw [hg]; exact (below_size (by repeat (first | (with_reducible first | exact HB.out | apply below_alloc | apply pw_below_drewN | apply below_drew1 | refine below_set ?_ GE128.out) | exact HB.out))) : w.heap.size ≤ gb138)); have n5_ := Aside0.mk ((by rw [hg]; exact Nat.ne_of_lt (blk_lt (g := gb128) (o := .cells #[.int .i64 a0_0, .int .i64 a0_1, .slice A0_2 l0_2.length c0_2, .slice A0_3 l0_3.length c0_3, .slice (some ad137) l0_4.length c0_4, .int .i64 a0_5, .int .i64 a0_6] 25 (0, 0)) (by (with_reducible repeat (first | refine blk_drewN ?_ _ | refine blk_drew ?_ | refine blk_alloc ?_ _)); exact BK128.out)) : gb128 ≠ gb138)); have n6_ := Aside0.mk ((by rw [hg]; exact Nat.ne_of_gt (blk_lt (g := gb128) (o := .cells #[.int .i64 a0_0, .int .i64 a0_1, .slice A0_2 l0_2.length c0_2, .slice A0_3 l0_3.length c0_3, .slice (some ad137) l0_4.length c0_4, .int .i64 a0_5, .int .i64 a0_6] 25 (0, 0)) (by (with_reducible repeat (first | refine blk_drewN ?_ _ | refine blk_drew ?_ | refine blk_alloc ?_ _)); exact BK128.out)) : gb138 ≠ gb128)); clear BK128; clear HB; have BK128 := n0_; have HB := n1_; have BK138 := n2_; have GW138 := n3_; have GE138 := n4_; have NB128_138 := n5_; have NB138_128 := n6_; clear n0_ n1_ n2_ n3_ n4_ n5_ n6_; clear hb hbox hg; have hnb73 := NB138_128.out; have hnc73 := NB128_138.out; have hcz74_0 : w72.cell? ⟨gb138, 0, none⟩ = some (.int .i64 0) := (blk_cell BK138.out 0).trans rfl; have hcz74_1 : w72.cell? ⟨gb138, 1, none⟩ = some (.int .i64 0) := (blk_cell BK138.out 1).trans rfl; have hfz74_0 := blk_frozen BK138.out 0; have hfz74_1 := blk_frozen BK138.out 1))
                                repeat (go_quiet (first | ((with_reducible refine gate_dst (N := 6) rfl ?_); (try (refine gate_guard (by rfl) ?_; dsimp only)); refine box_event ?hg (N := 6) ?hd (cs := #[.int .i64 0, .int .i64 0]) (t := 53) ?hr ?_; (case hd => rfl); (case hg => rfl); (case hr => first | (go_simp; done) | (go_simp; rfl)); intro gb138 hg w72 hbox hb; have n0_ := Aside0.mk (blk_below (g := gb128) (o := .cells #[.int .i64 a0_0, .int .i64 a0_1, .slice A0_2 l0_2.length c0_2, .slice A0_3 l0_3.length c0_3, .slice (some ad137) l0_4.length c0_4, .int .i64 a0_5, .int .i64 a0_6] 25 (0, 0)) (by (with_reducible repeat (first | refine blk_drewN ?_ _ | refine blk_drew ?_ | refine blk_alloc ?_ _)); exact BK128.out) hb); have n1_ := Aside0.mk (below_step (by repeat (first | (with_reducible first | exact HB.out | apply below_alloc | apply pw_below_drewN | apply below_drew1 | refine below_set ?_ GE128.out) | exact HB.out)) hb); have n2_ := Aside0.mk (hbox); have n3_ := Aside0.mk ((by rw [hg]; exact (below_size (by repeat (first | (with_reducible first | exact HB.out | apply below_alloc | apply pw_below_drewN | apply below_drew1 | refine below_set ?_ GE128.out) | exact HB.out))) : w.heap.size ≤ gb138)); have n4_ := Aside0.mk ((by rw [hg]; exact (below_size (by repeat (first | (with_reducible first | exact HB.out | apply below_alloc | apply pw_below_drewN | apply below_drew1 | refine below_set ?_ GE128.out) | exact HB.out))) : w.heap.size ≤ gb138)); have n5_ := Aside0.mk ((by rw [hg]; exact Nat.ne_of_lt (blk_lt (g := gb128) (o := .cells #[.int .i64 a0_0, .int .i64 a0_1, .slice A0_2 l0_2.length c0_2, .slice A0_3 l0_3.length c0_3, .slice (some ad137) l0_4.length c0_4, .int .i64 a0_5, .int .i64 a0_6] 25 (0, 0)) (by (with_reducible repeat (first | refine blk_drewN ?_ _ | refine blk_drew ?_ | refine blk_alloc ?_ _)); exact BK128.out)) : gb128 ≠ gb138)); have n6_ := Aside0.mk ((by rw [hg]; exact Nat.ne_of_gt (blk_lt (g := gb128) (o := .cells #[.int .i64 a0_0, .int .i64 a0_1, .slice A0_2 l0_2.length c0_2, .slice A0_3 l0_3.length c0_3, .slice (some ad137) l0_4.length c0_4, .int .i64 a0_5, .int .i64 a0_6] 25 (0, 0)) (by (with_reducible repeat (first | refine blk_drewN ?_ _ | refine blk_drew ?_ | refine blk_alloc ?_ _)); exact BK128.out)) : gb138 ≠ gb128)); clear BK128; clear HB; have BK128 := n0_; have HB := n1_; have BK138 := n2_; have GW138 := n3_; have GE138 := n4_; have NB128_138 := n5_; have NB138_128 := n6_; clear n0_ n1_ n2_ n3_ n4_ n5_ n6_; clear hb hbox hg; have hnb73 := NB138_128.out; have hnc73 := NB128_138.out; have hcz74_0 : w72.cell? ⟨gb138, 0, none⟩ = some (.int .i64 0) := (blk_cell BK138.out 0).trans rfl; have hcz74_1 : w72.cell? ⟨gb138, 1, none⟩ = some (.int .i64 0) := (blk_cell BK138.out 1).trans rfl; have hfz74_0 := blk_frozen BK138.out 0; have hfz74_1 := blk_frozen BK138.out 1)); try go_wp2_with (first | ((with_reducible refine gate_dst (N := 6) rfl ?_); (try (refine gate_guard (by rfl) ?_; dsimp only)); refine box_event ?hg (N := 6) ?hd (cs := #[.int .i64 0, .int .i64 0]) (t := 53) ?hr ?_; (case hd => rfl); (case hg => rfl); (case hr => first | (go_simp; done) | (go_simp; rfl)); intro gb138 hg w72 hbox hb; have n0_ := Aside0.mk (blk_below (g := gb128) (o := .cells #[.int .i64 a0_0, .int .i64 a0_1, .slice A0_2 l0_2.length c0_2, .slice A0_3 l0_3.length c0_3, .slice (some ad137) l0_4.length c0_4, .int .i64 a0_5, .int .i64 a0_6] 25 (0, 0)) (by (with_reducible repeat (first | refine blk_drewN ?_ _ | refine blk_drew ?_ | refine blk_alloc ?_ _)); exact BK128.out) hb); have n1_ := Aside0.mk (below_step (by repeat (first | (with_reducible first | exact HB.out | apply below_alloc | apply pw_below_drewN | apply below_drew1 | refine below_set ?_ GE128.out) | exact HB.out)) hb); have n2_ := Aside0.mk (hbox); have n3_ := Aside0.mk ((by rw [hg]; exact (below_size (by repeat (first | (with_reducible first | exact HB.out | apply below_alloc | apply pw_below_drewN | apply below_drew1 | refine below_set ?_ GE128.out) | exact HB.out))) : w.heap.size ≤ gb138)); have n4_ := Aside0.mk ((by rw [hg]; exact (below_size (by repeat (first | (with_reducible first | exact HB.out | apply below_alloc | apply pw_below_drewN | apply below_drew1 | refine below_set ?_ GE128.out) | exact HB.out))) : w.heap.size ≤ gb138)); have n5_ := Aside0.mk ((by rw [hg]; exact Nat.ne_of_lt (blk_lt (g := gb128) (o := .cells #[.int .i64 a0_0, .int .i64 a0_1, .slice A0_2 l0_2.length c0_2, .slice A0_3 l0_3.length c0_3, .slice (some ad137) l0_4.length c0_4, .int .i64 a0_5, .int .i64 a0_6] 25 (0, 0)) (by (with_reducible repeat (first | refine blk_drewN ?_ _ | refine blk_drew ?_ | refine blk_alloc ?_ _)); exact BK128.out)) : gb128 ≠ gb138)); have n6_ := Aside0.mk ((by rw [hg]; exact Nat.ne_of_gt (blk_lt (g := gb128) (o := .cells #[.int .i64 a0_0, .int .i64 a0_1, .slice A0_2 l0_2.length c0_2, .slice A0_3 l0_3.length c0_3, .slice (some ad137) l0_4.length c0_4, .int .i64 a0_5, .int .i64 a0_6] 25 (0, 0)) (by (with_reducible repeat (first | refine blk_drewN ?_ _ | refine blk_drew ?_ | refine blk_alloc ?_ _)); exact BK128.out)) : gb138 ≠ gb128)); clear BK128; clear HB; have BK128 := n0_; have HB := n1_; have BK138 := n2_; have GW138 := n3_; have GE138 := n4_; have NB128_138 := n5_; have NB138_128 := n6_; clear n0_ n1_ n2_ n3_ n4_ n5_ n6_; clear hb hbox hg; have hnb73 := NB138_128.out; have hnc73 := NB128_138.out; have hcz74_0 : w72.cell? ⟨gb138, 0, none⟩ = some (.int .i64 0) := (blk_cell BK138.out 0).trans rfl; have hcz74_1 : w72.cell? ⟨gb138, 1, none⟩ = some (.int .i64 0) := (blk_cell BK138.out 1).trans rfl; have hfz74_0 := blk_frozen BK138.out 0; have hfz74_1 := blk_frozen BK138.out 1)))
                                go_roundg k3
                                case measure => have := HJ1.out; have := HK2.out; have := HK3.out; omega
                                case rel => exact ⟨(wrap64 (x5_3 + 1)), (by first | rfl | (simp; done) | (simp [*]; done)), H', ⟨by have := HJ1.out; have := HK2.out; have := HK3.out; omega⟩, ⟨by (with_reducible repeat (first | refine blk_drewN ?_ _ | refine blk_drew ?_ | refine blk_alloc ?_ _)); refine blk_far ?_ NB128_138.out _; (with_reducible repeat (first | refine blk_drewN ?_ _ | refine blk_drew ?_ | refine blk_alloc ?_ _)); refine blk_far ?_ NB128_138.out _; (with_reducible repeat (first | refine blk_drewN ?_ _ | refine blk_drew ?_ | refine blk_alloc ?_ _)); exact BK128.out⟩, ⟨by repeat (first | (with_reducible first | exact HB.out | apply below_alloc | apply pw_below_drewN | apply below_drew1 | refine below_set ?_ GE128.out | refine below_set ?_ GE138.out) | exact HB.out)⟩⟩
                    · rw [if_neg c45] at H
                      exact absurd H (by simp)
                  · rw [if_neg c44] at H
                    have c44b0 : decide (x5_3 < (l0_4.length : Int)) = false := decide_eq_false c44
                    clear c44
                    by_cases c75 : a0_5 < 0
                    · rw [if_pos c75] at H
                      have c75b0 : decide (a0_5 < 0) = true := decide_eq_true c75
                      clear c75
                      obtain rfl := Option.some.inj H
                      have hcz76_0 : wr.cell? ⟨gb128, 0, none⟩ = some (.int .i64 a0_0) := (blk_cell BK128.out 0).trans rfl
                      have hcz76_1 : wr.cell? ⟨gb128, 1, none⟩ = some (.int .i64 a0_1) := (blk_cell BK128.out 1).trans rfl
                      have hcz76_2 : wr.cell? ⟨gb128, 2, none⟩ = some (.slice A0_2 l0_2.length c0_2) := (blk_cell BK128.out 2).trans rfl
                      have hcz76_3 : wr.cell? ⟨gb128, 3, none⟩ = some (.slice A0_3 l0_3.length c0_3) := (blk_cell BK128.out 3).trans rfl
                      have hcz76_4 : wr.cell? ⟨gb128, 4, none⟩ = some (.slice A0_4 l0_4.length c0_4) := (blk_cell BK128.out 4).trans rfl
                      have hcz76_5 : wr.cell? ⟨gb128, 5, none⟩ = some (.int .i64 a0_5) := (blk_cell BK128.out 5).trans rfl
                      have hcz76_6 : wr.cell? ⟨gb128, 6, none⟩ = some (.int .i64 a0_6) := (blk_cell BK128.out 6).trans rfl
                      have hfz76_0 := blk_frozen BK128.out 0
                      have hfz76_1 := blk_frozen BK128.out 1
                      have hfz76_2 := blk_frozen BK128.out 2
                      have hfz76_3 := blk_frozen BK128.out 3
                      have hfz76_4 := blk_frozen BK128.out 4
                      have hfz76_5 := blk_frozen BK128.out 5
                      have hfz76_6 := blk_frozen BK128.out 6
                      go_wp2
                      repeat (go_quiet (fail); try go_wp2)
                      go_ret
                      exact ⟨by first | rfl | (simp [errW_none, errW_some] <;> rfl) | (simp [*, errW_none, errW_some] <;> rfl), by repeat (first | (with_reducible first | exact HB.out | apply below_alloc | apply pw_below_drewN | apply below_drew1 | refine below_set ?_ GE128.out) | exact HB.out)⟩
                    · rw [if_neg c75] at H
                      have c75b0 : decide (a0_5 < 0) = false := decide_eq_false c75
                      clear c75
                      by_cases c77 : a0_5 ≥ (l0_2.length : Int)
                      · rw [if_pos c77] at H
                        have c77b0 : decide ((l0_2.length : Int) ≤ a0_5) = true := decide_eq_true c77
                        clear c77
                        obtain rfl := Option.some.inj H
                        have hcz78_0 : wr.cell? ⟨gb128, 0, none⟩ = some (.int .i64 a0_0) := (blk_cell BK128.out 0).trans rfl
                        have hcz78_1 : wr.cell? ⟨gb128, 1, none⟩ = some (.int .i64 a0_1) := (blk_cell BK128.out 1).trans rfl
                        have hcz78_2 : wr.cell? ⟨gb128, 2, none⟩ = some (.slice A0_2 l0_2.length c0_2) := (blk_cell BK128.out 2).trans rfl
                        have hcz78_3 : wr.cell? ⟨gb128, 3, none⟩ = some (.slice A0_3 l0_3.length c0_3) := (blk_cell BK128.out 3).trans rfl
                        have hcz78_4 : wr.cell? ⟨gb128, 4, none⟩ = some (.slice A0_4 l0_4.length c0_4) := (blk_cell BK128.out 4).trans rfl
                        have hcz78_5 : wr.cell? ⟨gb128, 5, none⟩ = some (.int .i64 a0_5) := (blk_cell BK128.out 5).trans rfl
                        have hcz78_6 : wr.cell? ⟨gb128, 6, none⟩ = some (.int .i64 a0_6) := (blk_cell BK128.out 6).trans rfl
                        have hfz78_0 := blk_frozen BK128.out 0
                        have hfz78_1 := blk_frozen BK128.out 1
                        have hfz78_2 := blk_frozen BK128.out 2
                        have hfz78_3 := blk_frozen BK128.out 3
                        have hfz78_4 := blk_frozen BK128.out 4
                        have hfz78_5 := blk_frozen BK128.out 5
                        have hfz78_6 := blk_frozen BK128.out 6
                        go_wp2
                        repeat (go_quiet (fail); try go_wp2)
                        go_ret
                        exact ⟨by first | rfl | (simp [errW_none, errW_some] <;> rfl) | (simp [*, errW_none, errW_some] <;> rfl), by repeat (first | (with_reducible first | exact HB.out | apply below_alloc | apply pw_below_drewN | apply below_drew1 | refine below_set ?_ GE128.out) | exact HB.out)⟩
                      · rw [if_neg c77] at H
                        have c77b0 : decide ((l0_2.length : Int) ≤ a0_5) = false := decide_eq_false c77
                        clear c77
                        by_cases c79 : a0_6 < 1
                        · rw [if_pos c79] at H
                          have c79b0 : decide (a0_6 < 1) = true := decide_eq_true c79
                          clear c79
                          obtain rfl := Option.some.inj H
                          have hcz80_0 : wr.cell? ⟨gb128, 0, none⟩ = some (.int .i64 a0_0) := (blk_cell BK128.out 0).trans rfl
                          have hcz80_1 : wr.cell? ⟨gb128, 1, none⟩ = some (.int .i64 a0_1) := (blk_cell BK128.out 1).trans rfl
                          have hcz80_2 : wr.cell? ⟨gb128, 2, none⟩ = some (.slice A0_2 l0_2.length c0_2) := (blk_cell BK128.out 2).trans rfl
                          have hcz80_3 : wr.cell? ⟨gb128, 3, none⟩ = some (.slice A0_3 l0_3.length c0_3) := (blk_cell BK128.out 3).trans rfl
                          have hcz80_4 : wr.cell? ⟨gb128, 4, none⟩ = some (.slice A0_4 l0_4.length c0_4) := (blk_cell BK128.out 4).trans rfl
                          have hcz80_5 : wr.cell? ⟨gb128, 5, none⟩ = some (.int .i64 a0_5) := (blk_cell BK128.out 5).trans rfl
                          have hcz80_6 : wr.cell? ⟨gb128, 6, none⟩ = some (.int .i64 a0_6) := (blk_cell BK128.out 6).trans rfl
                          have hfz80_0 := blk_frozen BK128.out 0
                          have hfz80_1 := blk_frozen BK128.out 1
                          have hfz80_2 := blk_frozen BK128.out 2
                          have hfz80_3 := blk_frozen BK128.out 3
                          have hfz80_4 := blk_frozen BK128.out 4
                          have hfz80_5 := blk_frozen BK128.out 5
                          have hfz80_6 := blk_frozen BK128.out 6
                          go_wp2
                          repeat (go_quiet (fail); try go_wp2)
                          go_ret
                          exact ⟨by first | rfl | (simp [errW_none, errW_some] <;> rfl) | (simp [*, errW_none, errW_some] <;> rfl), by repeat (first | (with_reducible first | exact HB.out | apply below_alloc | apply pw_below_drewN | apply below_drew1 | refine below_set ?_ GE128.out) | exact HB.out)⟩
                        · rw [if_neg c79] at H
                          have c79b0 : decide (a0_6 < 1) = false := decide_eq_false c79
                          clear c79
                          by_cases c81 : a0_6 > (l0_2.length : Int)
                          · rw [if_pos c81] at H
                            have c81b0 : decide ((l0_2.length : Int) < a0_6) = true := decide_eq_true c81
                            clear c81
                            obtain rfl := Option.some.inj H
                            have hcz82_0 : wr.cell? ⟨gb128, 0, none⟩ = some (.int .i64 a0_0) := (blk_cell BK128.out 0).trans rfl
                            have hcz82_1 : wr.cell? ⟨gb128, 1, none⟩ = some (.int .i64 a0_1) := (blk_cell BK128.out 1).trans rfl
                            have hcz82_2 : wr.cell? ⟨gb128, 2, none⟩ = some (.slice A0_2 l0_2.length c0_2) := (blk_cell BK128.out 2).trans rfl
                            have hcz82_3 : wr.cell? ⟨gb128, 3, none⟩ = some (.slice A0_3 l0_3.length c0_3) := (blk_cell BK128.out 3).trans rfl
                            have hcz82_4 : wr.cell? ⟨gb128, 4, none⟩ = some (.slice A0_4 l0_4.length c0_4) := (blk_cell BK128.out 4).trans rfl
                            have hcz82_5 : wr.cell? ⟨gb128, 5, none⟩ = some (.int .i64 a0_5) := (blk_cell BK128.out 5).trans rfl
                            have hcz82_6 : wr.cell? ⟨gb128, 6, none⟩ = some (.int .i64 a0_6) := (blk_cell BK128.out 6).trans rfl
                            have hfz82_0 := blk_frozen BK128.out 0
                            have hfz82_1 := blk_frozen BK128.out 1
                            have hfz82_2 := blk_frozen BK128.out 2
                            have hfz82_3 := blk_frozen BK128.out 3
                            have hfz82_4 := blk_frozen BK128.out 4
                            have hfz82_5 := blk_frozen BK128.out 5
                            have hfz82_6 := blk_frozen BK128.out 6
                            go_wp2
                            repeat (go_quiet (fail); try go_wp2)
                            go_ret
                            exact ⟨by first | rfl | (simp [errW_none, errW_some] <;> rfl) | (simp [*, errW_none, errW_some] <;> rfl), by repeat (first | (with_reducible first | exact HB.out | apply below_alloc | apply pw_below_drewN | apply below_drew1 | refine below_set ?_ GE128.out) | exact HB.out)⟩
                          · rw [if_neg c81] at H
                            have c81b0 : decide ((l0_2.length : Int) < a0_6) = false := decide_eq_false c81
                            clear c81
                            obtain rfl := Option.some.inj H
                            have hcz83_0 : wr.cell? ⟨gb128, 0, none⟩ = some (.int .i64 a0_0) := (blk_cell BK128.out 0).trans rfl
                            have hcz83_1 : wr.cell? ⟨gb128, 1, none⟩ = some (.int .i64 a0_1) := (blk_cell BK128.out 1).trans rfl
                            have hcz83_2 : wr.cell? ⟨gb128, 2, none⟩ = some (.slice A0_2 l0_2.length c0_2) := (blk_cell BK128.out 2).trans rfl
                            have hcz83_3 : wr.cell? ⟨gb128, 3, none⟩ = some (.slice A0_3 l0_3.length c0_3) := (blk_cell BK128.out 3).trans rfl
                            have hcz83_4 : wr.cell? ⟨gb128, 4, none⟩ = some (.slice A0_4 l0_4.length c0_4) := (blk_cell BK128.out 4).trans rfl
                            have hcz83_5 : wr.cell? ⟨gb128, 5, none⟩ = some (.int .i64 a0_5) := (blk_cell BK128.out 5).trans rfl
                            have hcz83_6 : wr.cell? ⟨gb128, 6, none⟩ = some (.int .i64 a0_6) := (blk_cell BK128.out 6).trans rfl
                            have hfz83_0 := blk_frozen BK128.out 0
                            have hfz83_1 := blk_frozen BK128.out 1
                            have hfz83_2 := blk_frozen BK128.out 2
                            have hfz83_3 := blk_frozen BK128.out 3
                            have hfz83_4 := blk_frozen BK128.out 4
                            have hfz83_5 := blk_frozen BK128.out 5
                            have hfz83_6 := blk_frozen BK128.out 6
                            go_wp2
                            repeat (go_quiet (fail); try go_wp2)
                            go_ret
                            exact ⟨by first | rfl | (simp [errW_none, errW_some] <;> rfl) | (simp [*, errW_none, errW_some] <;> rfl), by repeat (first | (with_reducible first | exact HB.out | apply below_alloc | apply pw_below_drewN | apply below_drew1 | refine below_set ?_ GE128.out) | exact HB.out)⟩

end Go.Proofs.YtfiflkjniodbeaaGreatDoor.PReachCheckSpec
