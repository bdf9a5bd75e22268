/-
  The specification and the program agree on Check, Exact and Finals (layer 28), as plain functions of numbers and lists.
-/
import Derived.Test.YtfiflkjniodbeaaGreatDoorPReachCheckSpecx3
import Derived.Test.YtfiflkjniodbeaaGreatDoorPReachCheckSpecx10
namespace Go.Proofs.YtfiflkjniodbeaaGreatDoor.Pure28
open Go.Proofs.YtfiflkjniodbeaaGreatDoor.PReachCheckSpec Go.Proofs.YtfiflkjniodbeaaGreatDoorW.PrintWords Go.Proofs.YtfiflkjniodbeaaGreatDoorW.PrintLast
open Go.RowKit

theorem w64 {x : Int} (h : -9223372036854775808 ≤ x) (h2 : x ≤ 9223372036854775807) : wrap64 x = x := by unfold wrap64; omega
theorem within_if {α : Type} (a b c : Int) (X Y : Option α) : ((reach_within.f a b c).bind fun t => if t = true then X else Y) = if b ≤ a ∧ a ≤ c then X else Y := by
  unfold reach_within.f
  by_cases h1 : a ≥ b
  · rw [if_pos h1]
    by_cases h2 : a ≤ c
    · rw [if_pos ⟨h1, h2⟩]; simp [h2]
    · rw [if_neg (fun h => h2 h.2)]; simp [h2]
  · rw [if_neg h1, if_neg (fun h => h1 h.1)]; rfl
theorem and_if {α : Type} (p q : Prop) [Decidable p] [Decidable q] (X Y : α) : (if p ∧ q then X else Y) = if p then (if q then X else Y) else Y := by
  by_cases h : p <;> by_cases k : q <;> simp [h, k]
theorem not_if {α : Type} {p q : Prop} [Decidable p] [Decidable q] (h : p ↔ ¬ q) (X Y : α) : (if p then X else Y) = if q then Y else X := by
  by_cases k : q
  · rw [if_pos k, if_neg (fun hp => h.1 hp k)]
  · rw [if_neg k, if_pos (h.2 k)]

section
variable (a0 a1 : Int) (l2 l3 : List Int) (l4 : List S53) (a5 a6 : Int)

/-! ### Check -/
theorem check_l1 {n : Int} (hn : 0 < n) (hn2 : n ≤ 1000) (h4 : l4.length ≤ 1000) : ∀ (k : Nat) (i : Int), 0 ≤ i → i ≤ 1000 →
    reach_Check.l1 k n l4 (l4.length : Int) i a0 a1 l2 l3 l4 a5 a6 = assizeref28_Check.l1 k n i a0 a1 l2 l3 l4 a5 a6
  | 0, _, _, _ => rfl
  | k + 1, i, h0, h1 => by
    have hw : wrap64 (n - 1) = n - 1 := w64 (by omega) (by omega)
    simp only [reach_Check.l1, assizeref28_Check.l1, within_if, and_if, hw]
    by_cases hc : i < (l4.length : Int)
    · have hi : wrap64 (i + 1) = i + 1 := w64 (by omega) (by omega)
      rw [if_pos hc, if_pos hc, if_pos h0, if_pos h0, if_pos hc, hi]
      have ih := check_l1 hn hn2 h4 k (i + 1) (by omega) (by omega)
      rw [ih]
      generalize (rd_T53 l4 i).f0 = x
      generalize (rd_T53 l4 i).f1 = y
      rw [not_if (show 0 ≤ x ↔ ¬ x < 0 by omega), not_if (show x ≤ n - 1 ↔ ¬ x ≥ n by omega), not_if (show 0 ≤ y ↔ ¬ y < 0 by omega), not_if (show y ≤ n - 1 ↔ ¬ y ≥ n by omega)]
    · rw [if_neg hc, if_neg hc]
      rw [not_if (show 0 ≤ a5 ↔ ¬ a5 < 0 by omega), not_if (show a5 ≤ n - 1 ↔ ¬ a5 ≥ n by omega), not_if (show 1 ≤ a6 ↔ ¬ a6 < 1 by omega), not_if (show a6 ≤ n ↔ ¬ a6 > n by omega)]

theorem check_l0 (hn : 0 < l2.length) (hn2 : l2.length ≤ 1000) (h3 : l3.length = l2.length) (h4 : l4.length ≤ 1000) : ∀ (k : Nat) (i : Int), 0 ≤ i → i ≤ 1000 →
    reach_Check.l0 k (l2.length : Int) l2 (l2.length : Int) i a0 a1 l2 l3 l4 a5 a6 = assizeref28_Check.l0 k (l2.length : Int) i a0 a1 l2 l3 l4 a5 a6
  | 0, _, _, _ => rfl
  | k + 1, i, h0, h1 => by
    have hj : wrap64 (i - 1) = i - 1 := w64 (by omega) (by omega)
    simp only [reach_Check.l0, assizeref28_Check.l0, within_if, and_if, hj]
    by_cases hc : i < (l2.length : Int)
    · have hi : wrap64 (i + 1) = i + 1 := w64 (by omega) (by omega)
      have hc3 : i < (l3.length : Int) := by omega
      rw [if_pos hc, if_pos hc, if_pos h0, if_pos h0, if_pos hc, if_pos hc, hi]
      have ih := check_l0 hn hn2 h3 h4 k (i + 1) (by omega) (by omega)
      rw [ih]
      simp only [if_pos hc3]
      generalize rd l2 i = x
      generalize rd l2 (i - 1) = y
      generalize rd l3 i = z
      rw [not_if (show 0 ≤ x ↔ ¬ x < 0 by omega), not_if (show x ≤ 191 ↔ ¬ x ≥ 192 by omega)]
      simp only [not_if (show -99999 ≤ z ↔ ¬ z < -99999 by omega), not_if (show z ≤ 99999 ↔ ¬ z > 99999 by omega)]
    · rw [if_neg hc, if_neg hc]
      exact check_l1 a0 a1 l2 l3 l4 a5 a6 (by omega) (by omega) h4 k 0 (by omega) (by omega)

theorem check_eq (k : Nat) (hn2 : l2.length ≤ 1000) (h4 : l4.length ≤ 1000) : reach_Check.f k a0 a1 l2 l3 l4 a5 a6 = assizeref28_Check.f k a0 a1 l2 l3 l4 a5 a6 := by
  simp only [reach_Check.f, assizeref28_Check.f, within_if, and_if]
  have hj : ∀ b : Bool, (0 < l2.length ∧ l3.length = l2.length ∨ b = true) → reach_Check.j0 k (l2.length : Int) b a0 a1 l2 l3 l4 a5 a6 = assizeref28_Check.j0 k (l2.length : Int) b a0 a1 l2 l3 l4 a5 a6 := by
    intro b hb
    cases k with
    | zero => rfl
    | succ k =>
      simp only [reach_Check.j0, assizeref28_Check.j0]
      cases b with
      | true => rfl
      | false =>
        rcases hb with hb | hb
        · rw [check_l0 a0 a1 l2 l3 l4 a5 a6 hb.1 hn2 hb.2 h4 k 0 (by omega) (by omega)]
        · cases hb
  rw [hj true (.inr rfl)]
  rw [not_if (show 0 ≤ a1 ↔ ¬ a1 < 0 by omega), not_if (show a1 ≤ a0 ↔ ¬ a0 < a1 by omega), not_if (show 2 ≤ (l2.length : Int) ↔ ¬ (l2.length : Int) < 2 by omega), not_if (show (l2.length : Int) ≤ 24 ↔ ¬ (l2.length : Int) > 24 by omega)]
  by_cases h2 : (l2.length : Int) < 2
  · simp only [if_pos h2]
  · by_cases h3 : (l3.length : Int) = (l2.length : Int)
    · rw [hj _ (.inl ⟨by omega, by omega⟩)]
    · simp only [if_neg h3]

/-- a race that passes the check -/
structure Valid : Prop where
  draw : 0 ≤ a1 ∧ a1 ≤ a0 ∧ a0 ≤ 999
  clubs : 2 ≤ (l2.length : Int) ∧ (l2.length : Int) ≤ 24
  points : l3.length = l2.length
  games : ∀ j : Int, 0 ≤ j → j < l4.length → (0 ≤ (rd_T53 l4 j).f0 ∧ (rd_T53 l4 j).f0 < l2.length) ∧ 0 ≤ (rd_T53 l4 j).f1 ∧ (rd_T53 l4 j).f1 < l2.length
  club : 0 ≤ a5 ∧ a5 < l2.length
  place : 1 ≤ a6 ∧ a6 ≤ l2.length

theorem l1_some {n : Int} (h4 : l4.length ≤ 1000) : ∀ (d k : Nat) (i : Int), 0 ≤ i → i + d = l4.length → d < k →
    ∃ e, assizeref28_Check.l1 k n i a0 a1 l2 l3 l4 a5 a6 = some e ∧ (e = 0 → (∀ j : Int, i ≤ j → j < l4.length → (0 ≤ (rd_T53 l4 j).f0 ∧ (rd_T53 l4 j).f0 < n) ∧ 0 ≤ (rd_T53 l4 j).f1 ∧ (rd_T53 l4 j).f1 < n) ∧ (0 ≤ a5 ∧ a5 < n) ∧ 1 ≤ a6 ∧ a6 ≤ n) := by
  intro d
  induction d with
  | zero =>
    intro k i h0 hi hk
    obtain ⟨k, rfl⟩ : ∃ m, k = m + 1 := ⟨k - 1, by omega⟩
    simp only [assizeref28_Check.l1]
    rw [if_neg (by omega)]
    repeat' split
    all_goals first
      | exact ⟨280, rfl, fun h => by omega⟩
      | exact ⟨0, rfl, fun _ => ⟨fun j h1 h2 => by omega, by omega, by omega⟩⟩
  | succ d ih =>
    intro k i h0 hi hk
    obtain ⟨k, rfl⟩ : ∃ m, k = m + 1 := ⟨k - 1, by omega⟩
    have hw : wrap64 (i + 1) = i + 1 := w64 (by omega) (by omega)
    obtain ⟨e, he, hv⟩ := ih k (i + 1) (by omega) (by omega) (by omega)
    simp only [assizeref28_Check.l1, hw, he]
    rw [if_pos (by omega), if_pos h0]
    repeat' split
    all_goals first
      | exact ⟨280, rfl, fun h => by omega⟩
      | (refine ⟨e, rfl, fun h => ⟨fun j h1 h2 => ?_, (hv h).2⟩⟩
         by_cases hj : j = i
         · subst hj; omega
         · exact (hv h).1 j (by omega) h2)

theorem l0_some (h2 : l2.length ≤ 1000) (h3 : l3.length = l2.length) (h4 : l4.length ≤ 1000) : ∀ (d k : Nat) (i : Int), 0 ≤ i → i + d = l2.length → d + l4.length + 1 < k →
    ∃ e, assizeref28_Check.l0 k (l2.length : Int) i a0 a1 l2 l3 l4 a5 a6 = some e ∧ (e = 0 → (∀ j : Int, 0 ≤ j → j < l4.length → (0 ≤ (rd_T53 l4 j).f0 ∧ (rd_T53 l4 j).f0 < l2.length) ∧ 0 ≤ (rd_T53 l4 j).f1 ∧ (rd_T53 l4 j).f1 < l2.length) ∧ (0 ≤ a5 ∧ a5 < l2.length) ∧ 1 ≤ a6 ∧ a6 ≤ l2.length) := by
  intro d
  induction d with
  | zero =>
    intro k i h0 hi hk
    obtain ⟨k, rfl⟩ : ∃ m, k = m + 1 := ⟨k - 1, by omega⟩
    simp only [assizeref28_Check.l0]
    rw [if_neg (by omega)]
    exact l1_some a0 a1 l2 l3 l4 a5 a6 h4 l4.length k 0 (by omega) (by omega) (by omega)
  | succ d ih =>
    intro k i h0 hi hk
    obtain ⟨k, rfl⟩ : ∃ m, k = m + 1 := ⟨k - 1, by omega⟩
    have hw : wrap64 (i + 1) = i + 1 := w64 (by omega) (by omega)
    have hw2 : wrap64 (i - 1) = i - 1 := w64 (by omega) (by omega)
    obtain ⟨e, he, hv⟩ := ih k (i + 1) (by omega) (by omega) (by omega)
    simp only [assizeref28_Check.l0, hw, hw2, he]
    rw [if_pos (by omega), if_pos h0, if_pos (by omega)]
    have hc3 : i < (l3.length : Int) := by omega
    simp only [if_pos hc3]
    repeat' split
    all_goals first
      | exact ⟨280, rfl, fun h => by omega⟩
      | exact ⟨e, rfl, hv⟩
      | (exfalso; omega)

theorem check_some (k : Nat) (hk : 200 ≤ k) (h2 : l2.length ≤ 30) (h4 : l4.length ≤ 40) : ∃ e, assizeref28_Check.f k a0 a1 l2 l3 l4 a5 a6 = some e ∧ (e = 0 → Valid a0 a1 l2 l3 l4 a5 a6) := by
  obtain ⟨k, rfl⟩ : ∃ m, k = m + 1 := ⟨k - 1, by omega⟩
  simp only [assizeref28_Check.f, assizeref28_Check.j0, if_true]
  repeat' split
  all_goals first
    | exact ⟨280, rfl, fun h => by omega⟩
    | skip
  rename_i c1 c2 c3 c4 c5 c6 c7
  obtain ⟨e, he, hv⟩ := l0_some a0 a1 l2 l3 l4 a5 a6 (by omega) (by omega) (by omega) l2.length k 0 (by omega) (by omega) (by omega)
  refine ⟨e, he, fun h => ⟨by omega, by omega, by omega, (hv h).1, (hv h).2.1, (hv h).2.2⟩⟩

/-! ### the number of sets -/
end
/-- the rows of Pascal's triangle, cut at 5000 -/
def tab : List (List Int) := [
  [1],
  [1, 1],
  [1, 2, 1],
  [1, 3, 3, 1],
  [1, 4, 6, 4, 1],
  [1, 5, 10, 10, 5, 1],
  [1, 6, 15, 20, 15, 6, 1],
  [1, 7, 21, 35, 35, 21, 7, 1],
  [1, 8, 28, 56, 70, 56, 28, 8, 1],
  [1, 9, 36, 84, 126, 126, 84, 36, 9, 1],
  [1, 10, 45, 120, 210, 252, 210, 120, 45, 10, 1],
  [1, 11, 55, 165, 330, 462, 462, 330, 165, 55, 11, 1],
  [1, 12, 66, 220, 495, 792, 924, 792, 495, 220, 66, 12, 1],
  [1, 13, 78, 286, 715, 1287, 1716, 1716, 1287, 715, 286, 78, 13, 1],
  [1, 14, 91, 364, 1001, 2002, 3003, 3432, 3003, 2002, 1001, 364, 91, 14, 1],
  [1, 15, 105, 455, 1365, 3003, 5000, 5000, 5000, 5000, 3003, 1365, 455, 105, 15, 1],
  [1, 16, 120, 560, 1820, 4368, 5000, 5000, 5000, 5000, 5000, 4368, 1820, 560, 120, 16, 1],
  [1, 17, 136, 680, 2380, 5000, 5000, 5000, 5000, 5000, 5000, 5000, 5000, 2380, 680, 136, 17, 1],
  [1, 18, 153, 816, 3060, 5000, 5000, 5000, 5000, 5000, 5000, 5000, 5000, 5000, 3060, 816, 153, 18, 1],
  [1, 19, 171, 969, 3876, 5000, 5000, 5000, 5000, 5000, 5000, 5000, 5000, 5000, 5000, 3876, 969, 171, 19, 1],
  [1, 20, 190, 1140, 4845, 5000, 5000, 5000, 5000, 5000, 5000, 5000, 5000, 5000, 5000, 5000, 4845, 1140, 190, 20, 1],
  [1, 21, 210, 1330, 5000, 5000, 5000, 5000, 5000, 5000, 5000, 5000, 5000, 5000, 5000, 5000, 5000, 5000, 1330, 210, 21, 1],
  [1, 22, 231, 1540, 5000, 5000, 5000, 5000, 5000, 5000, 5000, 5000, 5000, 5000, 5000, 5000, 5000, 5000, 5000, 1540, 231, 22, 1],
  [1, 23, 253, 1771, 5000, 5000, 5000, 5000, 5000, 5000, 5000, 5000, 5000, 5000, 5000, 5000, 5000, 5000, 5000, 5000, 1771, 253, 23, 1]]
def T (n m : Nat) : Int := (tab.getD n []).getD m 0
theorem tab_small : ∀ n < 24, ∀ m < 26, 0 ≤ T n m ∧ T n m ≤ 5000 := by decide +kernel
theorem tab_out : ∀ n < 24, T n (n + 1) = 0 := by decide +kernel
theorem tab_one : ∀ n < 24, T n 0 = 1 ∧ T n n = 1 := by decide +kernel
theorem tab_step : ∀ n < 23, ∀ m < n, T (n + 1) (m + 1) = mn 5000 (T n m + T n (m + 1)) := by decide +kernel
theorem few_tab : ∀ n : Nat, n < 24 → ∀ m : Nat, m < 25 → 1 ≤ n → m ≤ n + 1 → reach_few.f 30 (n : Int) (m : Int) = some (decide (T n m ≤ 2048)) := by decide +kernel

theorem choose_some : ∀ (n : Nat), n < 24 → ∀ (m k : Nat), m ≤ n + 1 → 3 * n + 3 ≤ k → assizeref28_choose.f k (n : Int) (m : Int) = some (T n m)
  | n, hn, m, k, hm, hk => by
    obtain ⟨k, rfl⟩ : ∃ q, k = q + 3 := ⟨k - 3, by omega⟩
    simp only [assizeref28_choose.f]
    rw [if_neg (by omega)]
    by_cases h1 : m = n + 1
    · have hd : decide ((m : Int) > (n : Int)) = true := decide_eq_true (by omega)
      rw [hd, h1, tab_out n hn]
      simp only [assizeref28_choose.j0, if_true]
    · have hd : decide ((m : Int) > (n : Int)) = false := decide_eq_false (by omega)
      rw [hd]
      simp only [assizeref28_choose.j0, Bool.false_eq_true, if_false]
      by_cases h2 : m = 0
      · subst h2
        rw [if_pos (by omega), (tab_one n hn).1]
        simp only [assizeref28_choose.j1, if_true]
      · rw [if_neg (by omega)]
        by_cases h3 : m = n
        · have : ((m : Int) == (n : Int)) = true := by rw [h3]; simp
          rw [this, h3, (tab_one n hn).2]
          simp only [assizeref28_choose.j1, if_true]
        · have : ((m : Int) == (n : Int)) = false := by simp; omega
          rw [this]
          simp only [assizeref28_choose.j1, Bool.false_eq_true, if_false]
          obtain ⟨n, rfl⟩ : ∃ q, n = q + 1 := ⟨n - 1, by omega⟩
          obtain ⟨m, rfl⟩ : ∃ q, m = q + 1 := ⟨m - 1, by omega⟩
          have e1 : wrap64 (((n + 1 : Nat) : Int) - 1) = (n : Int) := by rw [w64 (by omega) (by omega)]; omega
          have e2 : wrap64 (((m + 1 : Nat) : Int) - 1) = (m : Int) := by rw [w64 (by omega) (by omega)]; omega
          rw [e1, e2, choose_some n (by omega) m k (by omega) (by omega), choose_some n (by omega) (m + 1) k (by omega) (by omega)]
          simp only [Option.bind_some]
          have b1 := tab_small n (by omega) m (by omega)
          have b2 := tab_small n (by omega) (m + 1) (by omega)
          rw [w64 (by omega) (by omega), tab_step n (by omega) m (by omega)]

theorem few_l0_more : ∀ (k : Nat) (a b c d : Int) (r : Bool), reach_few.l0 k a b c d = some r → ∀ j, reach_few.l0 (k + j) a b c d = some r
  | _, _, _, _, _, _, h, 0 => h
  | k, a, b, c, d, r, h, j + 1 => (reach_few.mono_l (k + j)) a b c d r (few_l0_more k a b c d r h j)

section
variable (a0 a1 : Int) (l2 l3 : List Int) (l4 : List S53) (a5 a6 : Int)
theorem few_some {n m : Nat} (hn : n < 24) (hn1 : 1 ≤ n) (hm : m ≤ n + 1) (k : Nat) (hk : 30 ≤ k) : reach_few.f k (n : Int) (m : Int) = some (decide (T n m ≤ 2048)) := by
  have h := few_tab n hn m (by omega) hn1 hm
  obtain ⟨j, rfl⟩ : ∃ j, k = 30 + j := ⟨k - 30, by omega⟩
  exact few_l0_more 30 _ _ _ _ _ h j

theorem exact_eq (k : Nat) (hk : 200 ≤ k) (h2 : l2.length ≤ 30) (h4 : l4.length ≤ 40) : ∃ b e, reach_Exact.f k a0 a1 l2 l3 l4 a5 a6 = some (b, e) ∧ assizeref28_Exact.f k a0 a1 l2 l3 l4 a5 a6 = some (b, e) := by
  obtain ⟨e, he, hv⟩ := check_some a0 a1 l2 l3 l4 a5 a6 k hk h2 h4
  have hc := check_eq a0 a1 l2 l3 l4 a5 a6 k (by omega) (by omega)
  simp only [reach_Exact.f, assizeref28_Exact.f, hc, he, Option.bind_some]
  by_cases h0 : e = 0
  · rw [if_pos h0, if_pos h0]
    obtain ⟨v1, v2, v3, v4, v5, v6⟩ := hv h0
    have hb : ∃ b, reach_byFlow.f k a0 a1 l2 l3 l4 a5 a6 = some b ∧ assizeref28_ByFlow.f k a0 a1 l2 l3 l4 a5 a6 = some b := by
      obtain ⟨n, hn⟩ : ∃ n : Nat, (l2.length : Int) - 1 = n := ⟨l2.length - 1, by omega⟩
      obtain ⟨m, hm⟩ : ∃ m : Nat, a6 - 1 = m := ⟨(a6 - 1).toNat, by omega⟩
      have e1 : wrap64 ((l2.length : Int) - 1) = n := by rw [w64 (by omega) (by omega)]; exact hn
      have e2 : wrap64 (a6 - 1) = m := by rw [w64 (by omega) (by omega)]; exact hm
      have e3 : a6 = ((m + 1 : Nat) : Int) := by omega
      simp only [reach_byFlow.f, assizeref28_ByFlow.f, e1, e2]
      rw [e3, few_some (by omega) (by omega) (by omega) k (by omega), few_some (by omega) (by omega) (by omega) k (by omega), choose_some n (by omega) (m + 1) k (by omega) (by omega), choose_some n (by omega) m k (by omega) (by omega)]
      simp only [Option.bind_some]
      by_cases g1 : a1 > 0
      · by_cases g2 : a0 = wrap64 (2 * a1)
        · by_cases g3 : T n (m + 1) ≤ 2048
          · exact ⟨decide (T n m ≤ 2048), by simp [g1, g2, g3], by simp [g1, g2, g3]⟩
          · exact ⟨false, by simp [g1, g2, g3], by simp [g1, g2, g3]⟩
        · exact ⟨false, by simp [g1, g2], by simp [g1, g2]⟩
      · exact ⟨false, by simp [g1], by simp [g1]⟩
    obtain ⟨b, hb1, hb2⟩ := hb
    rw [hb1, hb2]
    simp only [Option.bind_some, reach_bySearch.f, assizeref28_BySearch.f]
    cases b with
    | true => exact ⟨true, 0, rfl, rfl⟩
    | false => exact ⟨_, 0, rfl, rfl⟩
  · rw [if_neg h0, if_neg h0]
    exact ⟨false, e, rfl, rfl⟩

/-! ### Finals -/
/-- are all outcomes known? -/
def Known (l1 : List Int) (i : Int) : Prop := ∀ j : Int, i ≤ j → j < l1.length → 1 ≤ rd l1 j ∧ rd l1 j ≤ 3
theorem index_some (l1 : List Int) (h1 : l1.length ≤ 1000) : ∀ (d k : Nat) (i : Int), 0 ≤ i → i + d = l1.length → d < k →
    ∃ r, slices_IndexFunc_int_int.l0 k l1 (l1.length : Int) i = some r ∧ (r ≥ 0 ↔ ¬ Known l1 i) := by
  intro d
  induction d with
  | zero =>
    intro k i h0 hi hk
    obtain ⟨k, rfl⟩ : ∃ m, k = m + 1 := ⟨k - 1, by omega⟩
    simp only [slices_IndexFunc_int_int.l0]
    rw [if_neg (by omega)]
    exact ⟨-1, rfl, ⟨fun h => by omega, fun h => (h fun j h1 h2 => by omega).elim⟩⟩
  | succ d ih =>
    intro k i h0 hi hk
    obtain ⟨k, rfl⟩ : ∃ m, k = m + 1 := ⟨k - 1, by omega⟩
    have hw : wrap64 (i + 1) = i + 1 := w64 (by omega) (by omega)
    obtain ⟨r, hr, hiff⟩ := ih k (i + 1) (by omega) (by omega) (by omega)
    simp only [slices_IndexFunc_int_int.l0, hw, hr]
    rw [if_pos (by omega), if_pos h0, if_pos (by omega)]
    by_cases hx : 1 ≤ rd l1 i ∧ rd l1 i ≤ 3
    · have : reach_Finals_L1.f (rd l1 i) = some false := by
        simp only [reach_Finals_L1.f, reach_within.f]
        rw [if_pos hx.1]
        simp [hx.2]
      rw [this]
      simp only [Option.bind_some, Bool.false_eq_true, if_false]
      refine ⟨r, rfl, hiff.trans (not_congr ⟨fun h j h1 h2 => ?_, fun h j h1 h2 => h j (by omega) h2⟩)⟩
      by_cases hj : j = i
      · subst hj; exact hx
      · exact h j (by omega) h2
    · have : reach_Finals_L1.f (rd l1 i) = some true := by
        simp only [reach_Finals_L1.f, reach_within.f]
        by_cases hx1 : rd l1 i ≥ 1
        · rw [if_pos hx1]
          have : ¬ rd l1 i ≤ 3 := fun h => hx ⟨hx1, h⟩
          simp [this]
        · rw [if_neg hx1]; rfl
      rw [this]
      simp only [Option.bind_some, if_true]
      exact ⟨i, rfl, ⟨fun _ h => hx (h i (by omega) (by omega)), fun _ => h0⟩⟩
theorem completion_some (l1 : List Int) (h1 : l1.length ≤ 1000) : ∀ (d k : Nat) (i : Int), 0 ≤ i → i + d = l1.length → d < k →
    ∃ r, assizeref28_Completion.l0 k l1 i a0 a1 l2 l3 l4 a5 a6 = some r ∧ (r = true ↔ Known l1 i ∧ (l1.length : Int) = l4.length) := by
  intro d
  induction d with
  | zero =>
    intro k i h0 hi hk
    obtain ⟨k, rfl⟩ : ∃ m, k = m + 1 := ⟨k - 1, by omega⟩
    simp only [assizeref28_Completion.l0]
    rw [if_neg (by omega)]
    refine ⟨_, rfl, ?_⟩
    simp only [beq_iff_eq]
    exact ⟨fun h => ⟨fun j h1 h2 => by omega, h⟩, fun h => h.2⟩
  | succ d ih =>
    intro k i h0 hi hk
    obtain ⟨k, rfl⟩ : ∃ m, k = m + 1 := ⟨k - 1, by omega⟩
    have hw : wrap64 (i + 1) = i + 1 := w64 (by omega) (by omega)
    obtain ⟨r, hr, hiff⟩ := ih k (i + 1) (by omega) (by omega) (by omega)
    simp only [assizeref28_Completion.l0, hw, hr]
    rw [if_pos (by omega), if_pos h0]
    by_cases hx : 1 ≤ rd l1 i ∧ rd l1 i ≤ 3
    · rw [if_neg (by omega), if_neg (by omega)]
      refine ⟨r, rfl, hiff.trans (and_congr_left' ⟨fun h j h1 h2 => ?_, fun h j h1 h2 => h j (by omega) h2⟩)⟩
      by_cases hj : j = i
      · subst hj; exact hx
      · exact h j (by omega) h2
    · have hf : ¬ (Known l1 i ∧ (l1.length : Int) = l4.length) := fun h => hx (h.1 i (by omega) (by omega))
      by_cases hx1 : rd l1 i < 1
      · rw [if_pos hx1]; exact ⟨false, rfl, by simp [hf]⟩
      · rw [if_neg hx1, if_pos (by omega)]; exact ⟨false, rfl, by simp [hf]⟩

theorem finals_some (hV : Valid a0 a1 l2 l3 l4 a5 a6) (l1 : List Int) (h1 : l1.length ≤ 1000) (h14 : (l1.length : Int) = l4.length) : ∀ (d k : Nat) (i : Int) (p : List Int), 0 ≤ i → i + d = l1.length → d < k → Known l1 i → p.length = l2.length →
    ∃ r, reach_Finals.l0 k p l1 (l1.length : Int) i a0 a1 l2 l3 l4 a5 a6 = some (r, 0) ∧ assizeref28_finals.l0 k l1 p i a0 a1 l2 l3 l4 a5 a6 = some r ∧ r.length = l2.length := by
  intro d
  induction d with
  | zero =>
    intro k i p h0 hi hk _ hp
    obtain ⟨k, rfl⟩ : ∃ m, k = m + 1 := ⟨k - 1, by omega⟩
    simp only [assizeref28_finals.l0, reach_Finals.l0]
    rw [if_neg (by omega), if_neg (by omega)]
    exact ⟨p, rfl, rfl, hp⟩
  | succ d ih =>
    intro k i p h0 hi hk hkn hp
    obtain ⟨k, rfl⟩ : ∃ m, k = m + 1 := ⟨k - 1, by omega⟩
    have hw : wrap64 (i + 1) = i + 1 := w64 (by omega) (by omega)
    have hx := hkn i (by omega) (by omega)
    have hg := hV.games i h0 (by omega)
    have hn : Known l1 (i + 1) := fun j h1 h2 => hkn j (by omega) h2
    simp only [assizeref28_finals.l0, reach_Finals.l0, reach_play.f, hw]
    have c1 : i < (l1.length : Int) := by omega
    have c4 : i < (l4.length : Int) := by omega
    simp only [if_pos c1, if_pos h0, if_pos c4]
    generalize hf0 : (rd_T53 l4 i).f0 = x at hg ⊢
    generalize hf1 : (rd_T53 l4 i).f1 = y at hg ⊢
    have q1 : (0 : Int) ≤ x := hg.1.1
    have q2 : x < (p.length : Int) := by omega
    have q3 : (0 : Int) ≤ y := hg.2.1
    have q4 : y < (p.length : Int) := by omega
    simp only [if_pos q1, if_pos q2, if_pos q3, if_pos q4, Option.bind_some]
    by_cases o1 : rd l1 i = 1
    · simp only [if_pos o1, Option.bind_some]
      exact ih k (i + 1) _ (by omega) (by omega) (by omega) hn (by simpa using hp)
    · by_cases o3 : rd l1 i = 3
      · have o2 : ¬ rd l1 i = 2 := by omega
        simp only [if_neg o1, if_neg o2, if_pos o3, Option.bind_some]
        exact ih k (i + 1) _ (by omega) (by omega) (by omega) hn (by simpa using hp)
      · have o2 : rd l1 i = 2 := by omega
        simp only [if_neg o1, if_neg o3, if_pos o2, Option.bind_some]
        exact ih k (i + 1) _ (by omega) (by omega) (by omega) hn (by simpa using hp)

theorem finals_eq (k : Nat) (hk : 200 ≤ k) (h2 : l2.length ≤ 30) (h3 : l3.length ≤ 30) (h4 : l4.length ≤ 40) (l1 : List Int) (h1 : l1.length ≤ 60) : ∃ r e, reach_Finals.f k a0 a1 l2 l3 l4 a5 a6 l1 = some (r, e) ∧ assizeref28_Finals.f k a0 a1 l2 l3 l4 a5 a6 l1 = some (r, e) ∧ r.length ≤ 30 := by
  obtain ⟨e, he, hv⟩ := check_some a0 a1 l2 l3 l4 a5 a6 k hk h2 h4
  have hc := check_eq a0 a1 l2 l3 l4 a5 a6 k (by omega) (by omega)
  simp only [reach_Finals.f, assizeref28_Finals.f, hc, he, Option.bind_some]
  by_cases h0 : e = 0
  · rw [if_pos h0, if_pos h0]
    have hV := hv h0
    obtain ⟨q, hq, hq2⟩ := completion_some a0 a1 l2 l3 l4 a5 a6 l1 (by omega) l1.length k 0 (by omega) (by omega) (by omega)
    obtain ⟨x, hx, hx2⟩ := index_some l1 (by omega) l1.length k 0 (by omega) (by omega) (by omega)
    obtain ⟨k, rfl⟩ : ∃ m, k = m + 1 := ⟨k - 1, by omega⟩
    simp only [assizeref28_Completion.f, hq, slices_ContainsFunc_int_int.f, slices_IndexFunc_int_int.f, hx, Option.bind_some, reach_Finals.j0, if_true]
    by_cases hlen : (l1.length : Int) = l4.length
    · rw [if_pos hlen]
      by_cases hkn : Known l1 0
      · have hqt : q = true := hq2.2 ⟨hkn, hlen⟩
        have hxf : decide (x ≥ 0) = false := decide_eq_false fun h => hx2.1 h hkn
        subst hqt
        rw [hxf]
        obtain ⟨r, hr1, hr2, hr3⟩ := finals_some a0 a1 l2 l3 l4 a5 a6 hV l1 (by omega) hlen l1.length k 0 l3 (by omega) (by omega) (by omega) hkn hV.points
        obtain ⟨r', hr1', hr2', hr3'⟩ := finals_some a0 a1 l2 l3 l4 a5 a6 hV l1 (by omega) hlen l1.length (k + 1) 0 l3 (by omega) (by omega) (by omega) hkn hV.points
        have hsame : r' = r := by
          have := (assizeref28_finals.mono_l k) _ _ _ _ _ _ _ _ _ _ _ hr2
          rw [hr2'] at this
          exact Option.some.inj this
        subst hsame
        have hl3 : (([] : List Int).length + l3.length < 17592186044416) := by simp; omega
        simp only [slices_Clone_int_int.f, assizeref28_finals.f, Option.bind_some, if_pos hl3, List.nil_append, Bool.false_eq_true, if_false, if_true, hr1, hr2']
        exact ⟨_, 0, rfl, rfl, by omega⟩
      · have hqf : q = false := by
          cases q with
          | false => rfl
          | true => exact (hkn (hq2.1 rfl).1).elim
        have hxt : decide (x ≥ 0) = true := decide_eq_true (hx2.2 hkn)
        subst hqf
        rw [hxt]
        exact ⟨[], 1, rfl, rfl, by simp⟩
    · rw [if_neg hlen]
      have hqf : q = false := by
        cases q with
        | false => rfl
        | true => exact (hlen (hq2.1 rfl).2).elim
      subst hqf
      exact ⟨[], 1, rfl, rfl, by simp⟩
  · rw [if_neg h0, if_neg h0]
    exact ⟨[], e, rfl, rfl, by simp⟩

theorem same_some (l : List Int) (hl : l.length ≤ 1000) : ∀ (d k : Nat) (i : Int), 0 ≤ i → i + d = l.length → d < k → assizeref28_SameList.l0 k l l i = some true := by
  intro d
  induction d with
  | zero =>
    intro k i h0 hi hk
    obtain ⟨k, rfl⟩ : ∃ m, k = m + 1 := ⟨k - 1, by omega⟩
    simp only [assizeref28_SameList.l0]
    rw [if_neg (by omega)]
  | succ d ih =>
    intro k i h0 hi hk
    obtain ⟨k, rfl⟩ : ∃ m, k = m + 1 := ⟨k - 1, by omega⟩
    have hw : wrap64 (i + 1) = i + 1 := w64 (by omega) (by omega)
    simp only [assizeref28_SameList.l0, hw]
    rw [if_pos (by omega), if_pos h0, if_pos (by omega)]
    simp only [if_true]
    exact ih k (i + 1) (by omega) (by omega) (by omega)

/-- all that the law compares -/
theorem facts (h2 : l2.length ≤ 30) (h3 : l3.length ≤ 30) (h4 : l4.length ≤ 40) (l1 : List Int) (h1 : l1.length ≤ 60) : ∃ e b f r g, reach_Check.f 200 a0 a1 l2 l3 l4 a5 a6 = some e ∧ assizeref28_Check.f 200 a0 a1 l2 l3 l4 a5 a6 = some e ∧
    reach_Exact.f 200 a0 a1 l2 l3 l4 a5 a6 = some (b, f) ∧ assizeref28_Exact.f 200 a0 a1 l2 l3 l4 a5 a6 = some (b, f) ∧
    reach_Finals.f 200 a0 a1 l2 l3 l4 a5 a6 l1 = some (r, g) ∧ assizeref28_Finals.f 200 a0 a1 l2 l3 l4 a5 a6 l1 = some (r, g) ∧ assizeref28_SameList.f 200 r r = some true := by
  obtain ⟨e, he, _⟩ := check_some a0 a1 l2 l3 l4 a5 a6 200 (by omega) h2 h4
  obtain ⟨b, f, hb1, hb2⟩ := exact_eq a0 a1 l2 l3 l4 a5 a6 200 (by omega) h2 h4
  obtain ⟨r, g, hr1, hr2, hr3⟩ := finals_eq a0 a1 l2 l3 l4 a5 a6 200 (by omega) h2 h3 h4 l1 h1
  refine ⟨e, b, f, r, g, (check_eq a0 a1 l2 l3 l4 a5 a6 200 (by omega) (by omega)).trans he, he, hb1, hb2, hr1, hr2, ?_⟩
  simp only [assizeref28_SameList.f, if_true]
  exact same_some r (by omega) r.length 200 0 (by omega) (by omega) (by omega)

/-- the law -/
theorem law_true (l1 : List Int) : assizelaw28_ReachCheckSpec.f 201 a0 a1 l2 l3 l4 a5 a6 l1 = some true := by
  simp only [assizelaw28_ReachCheckSpec.f, assizelaw28_sane.f, Option.bind_some, if_true, assizelaw28_ReachCheckSpec.j0]
  by_cases h2 : (l2.length : Int) > 30
  · rw [if_pos h2]
  · rw [if_neg h2]
    by_cases h3 : (l3.length : Int) > 30
    · rw [if_pos h3]
    · rw [if_neg h3]
      by_cases h4 : (l4.length : Int) > 40
      · rw [if_pos h4]
      · rw [if_neg h4]
        by_cases h1 : (l1.length : Int) > 60
        · simp only [h1, decide_true, if_true]
        · simp only [h1, decide_false, Bool.false_eq_true, if_false]
          obtain ⟨e, b, f, r, g, g1, g2, g3, g4, g5, g6, g7⟩ := facts a0 a1 l2 l3 l4 a5 a6 (by omega) (by omega) (by omega) l1 (by omega)
          simp only [g1, g2, g3, g4, g5, g6, Option.bind_some, if_true, beq_self_eq_true, g7]
end
end Go.Proofs.YtfiflkjniodbeaaGreatDoor.Pure28
