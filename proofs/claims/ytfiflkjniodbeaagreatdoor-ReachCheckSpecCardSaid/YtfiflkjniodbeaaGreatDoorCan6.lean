/- regions whose order is open. -/
import Derived.Test.YtfiflkjniodbeaaGreatDoorCan5
/-
  THE CANONICAL INTERPRETER'S SOUNDNESS, nineteenth part: a region whose order is open.
-/
namespace Go.Can
variable {P : Program} {E : Env} {ρ : Ren} {s s' : St} {w : World} {nx : Nx}

set_option maxHeartbeats 4000000 in
theorem quiet_state {o : Oper} {ev : Operand → Value} {x : Nx} (hq : quiet o.op = true) (hx : exec E ev o s = some (x, s')) : s' = s ∧ ∃ v, x = .value v := by
  unfold exec at hx
  split at hx
  case h_31 => cases hx
  case h_30 c hop =>
    rw [hop] at hq
    unfold quiet at hq
    simp only at hq
    split at hq
    all_goals first
      | (cases hq; done)
      | (rename_i hc
         simp only [hc] at hx
         unfold builtin at hx
         simp only at hx
         repeat' split at hx
         all_goals first
           | (cases hx; done)
           | exact ⟨(val_some hx).2, _, (val_some hx).1⟩)
  all_goals rename_i hop
  all_goals rw [hop] at hq
  all_goals first
    | (exfalso; revert hq; simp [quiet]; done)
    | skip
  all_goals first
    | exact ⟨(val_some hx).2, _, (val_some hx).1⟩
    | (repeat' split at hx
       all_goals first
         | (cases hx; done)
         | exact ⟨(val_some hx).2, _, (val_some hx).1⟩
         | (cases hx; exact ⟨rfl, _, rfl⟩))

theorem veq_eq : ∀ (n : Nat) (a b : Value), veq n a b = true → a = b
  | 0, a, b, h => by simp [veq] at h
  | n + 1, a, b, h => by
    have L : ∀ l m : List Value, veq.veqL n l m = true → l = m := by
      intro l
      induction l with
      | nil => intro m hm; cases m with
        | nil => rfl
        | cons y m => simp [veq.veqL] at hm
      | cons x l ih => intro m hm; cases m with
        | nil => simp [veq.veqL] at hm
        | cons y m =>
          simp only [veq.veqL, Bool.and_eq_true] at hm
          rw [veq_eq n x y hm.1, ih m hm.2]
    have M : ∀ x y : Array Value, veq.veqL n x.toList y.toList = true → x = y := fun x y h => Array.toList_inj.1 (L _ _ h)
    unfold veq at h
    split at h
    all_goals first
      | (cases h; done)
      | rfl
      | (rename_i heq; cases heq
         try simp only [Bool.and_eq_true, decide_eq_true_eq, beq_iff_eq, beq_true] at h
         first
           | (obtain ⟨⟨h1, h2⟩, h3⟩ := h; first | (subst h1; subst h2; subst h3; rfl) | (subst h1; rw [M _ _ h2, M _ _ h3]))
           | (obtain ⟨h1, h2⟩ := h; first | (subst h1; subst h2; rfl) | (subst h1; rw [veq_eq n _ _ h2]))
           | (subst h; rfl)
           | rw [M _ _ h])

/-! ### what stands where -/
def stAt (sn : List (A × St)) (s' : St) (i : Nat) : St := ((sn[i]?).map (·.2)).getD s'
def cnt (l : List Oper) (i : Nat) : Nat := (l.take i).countP fun o => !quiet o.op
theorem stAt_succ (p : A × St) (sn : List (A × St)) (s' : St) (i : Nat) : stAt (p :: sn) s' (i + 1) = stAt sn s' i := by simp [stAt]
theorem Run.first {n all l a sn a'} (h : Run E n all l a s sn a' s') : stAt sn s' 0 = s := by
  cases h <;> rfl
theorem cnt_succ (o : Oper) (l : List Oper) (i : Nat) : cnt (o :: l) (i + 1) = cnt l i + if quiet o.op then 0 else 1 := by
  unfold cnt
  simp only [List.take_succ_cons, List.countP_cons]
  cases quiet o.op <;> simp

theorem nx_value {m : Nat} {v u : Value} {s s2 : St} (h : go E m (.nx (.value v)) s = some (.val u, s2)) : u = v ∧ s2 = s := by
  cases m with
  | zero => simp [go] at h
  | succ m => simp only [go] at h; cases h; exact ⟨rfl, rfl⟩
theorem stages_at {n all l a sn a'} (h : Run E n all l a s sn a' s') : ∀ i, i ≤ l.length → (stagesOf l sn s')[cnt l i]? = some (stAt sn s' i) := by
  induction h with
  | nil a s => intro i hi; simp at hi; subst hi; rfl
  | @skip o l a s sn a' s' hw hd hr ih =>
    intro i hi
    have hf := hr.first
    unfold stagesOf
    cases i with
    | zero =>
      cases hq : quiet o.op with
      | true => simp only; have := ih 0 (Nat.zero_le _); rw [hf] at this; simpa [cnt, stAt] using this
      | false => rfl
    | succ i =>
      rw [cnt_succ, stAt_succ]
      have := ih i (by simpa using hi)
      cases hq : quiet o.op with
      | true => simpa using this
      | false => simpa using this
  | @op o l a s sn a' s' x s1 s2 v m hw hx hm hg hd hr ih =>
    intro i hi
    have hf := hr.first
    unfold stagesOf
    cases i with
    | zero =>
      cases hq : quiet o.op with
      | true =>
        obtain ⟨h1, y, h2⟩ := quiet_state hq hx
        subst h1; subst h2
        obtain ⟨_, h3⟩ := nx_value hg
        subst h3
        simp only; have := ih 0 (Nat.zero_le _); rw [hf] at this; simpa [cnt, stAt] using this
      | false => rfl
    | succ i =>
      rw [cnt_succ, stAt_succ]
      have := ih i (by simpa using hi)
      cases hq : quiet o.op with
      | true => simpa using this
      | false => simpa using this

theorem stages_length : ∀ (l : List Oper) (sn : List (A × St)) (s' : St), sn.length = l.length → (stagesOf l sn s').length = cnt l l.length + 1
  | [], sn, s', h => by simp [stagesOf, cnt]
  | o :: l, [], s', h => by simp at h
  | o :: l, p :: sn, s', h => by
    have := stages_length l sn s' (by simpa using h)
    unfold stagesOf
    rw [List.length_cons, cnt_succ]
    cases hq : quiet o.op <;> simp [this] <;> omega

theorem A.upd_n (a : A) (d : Option Tmp) (v : Value) : (a.upd d v).n = a.n := by cases d <;> rfl
theorem A.upd_marks (a : A) (d : Option Tmp) (v : Value) : (a.upd d v).marks = a.marks := by cases d <;> rfl
theorem A.upd_get_ne (a : A) {d : Option Tmp} (v : Value) {t : Nat} (h : d ≠ some t) : (a.upd d v).tmps.get t = a.tmps.get t := by
  cases d with
  | none => rfl
  | some d => exact T.get_upd_ne _ _ fun hh => h (hh ▸ rfl)

/-- what a run tells of the operation at a place -/
structure At (E : Env) (n : Nat) (all l : List Oper) (a : A) (sn : List (A × St)) (a' : A) (s' : St) (i : Nat) (o : Oper) (ai : A) (si : St) (v : Value) : Prop where
  snap : sn[i]? = some (ai, si)
  dst : ∀ d, o.dst = some d → d < a.n
  before : ∀ t, (∀ (j : Nat) (p : Oper), l[j]? = some p → j < i → p.dst ≠ some t) → ai.tmps.get t = a.tmps.get t
  behind : ∀ t, (∀ (j : Nat) (p : Oper), l[j]? = some p → i ≤ j → p.dst ≠ some t) → ai.tmps.get t = a'.tmps.get t
  final : ∀ d, o.dst = some d → (∀ (j : Nat) (p : Oper), l[j]? = some p → i < j → p.dst ≠ some d) → a'.tmps.get d = some v
  did : (wanted all ai o = some false ∧ v = undef ∧ stAt sn s' (i + 1) = si) ∨
    (wanted all ai o = some true ∧ ∃ x s1 m, m < n ∧ exec E ai.ev o si = some (x, s1) ∧ go E m (.nx x) s1 = some (.val v, stAt sn s' (i + 1)))

theorem run_at {n all l a sn a'} (h : Run E n all l a s sn a' s') (hn : a.n < 65536) : sn.length = l.length ∧ a'.n = a.n ∧ a'.marks = a.marks ∧
    (∀ t, (∀ (j : Nat) (p : Oper), l[j]? = some p → p.dst ≠ some t) → a.tmps.get t = a'.tmps.get t) ∧ ∀ (i : Nat) (o : Oper), l[i]? = some o → ∃ ai si v, At E n all l a sn a' s' i o ai si v := by
  have key : ∀ {o : Oper} {l : List Oper} {a a' : A} {s s2 s' : St} {sn : List (A × St)} {v : Value}, a.n < 65536 → (∀ d, o.dst = some d → d < a.n) → Run E n all l (a.upd o.dst v) s2 sn a' s' →
      ((wanted all a o = some false ∧ v = undef ∧ s2 = s) ∨ (wanted all a o = some true ∧ ∃ x s1 m, m < n ∧ exec E a.ev o s = some (x, s1) ∧ go E m (.nx x) s1 = some (.val v, s2))) →
      (sn.length = l.length ∧ a'.n = (a.upd o.dst v).n ∧ a'.marks = (a.upd o.dst v).marks ∧
        (∀ t, (∀ (j : Nat) (p : Oper), l[j]? = some p → p.dst ≠ some t) → (a.upd o.dst v).tmps.get t = a'.tmps.get t) ∧ ∀ (i : Nat) (o' : Oper), l[i]? = some o' → ∃ ai si v', At E n all l (a.upd o.dst v) sn a' s' i o' ai si v') →
      (((a, s) :: sn).length = (o :: l).length ∧ a'.n = a.n ∧ a'.marks = a.marks ∧
        (∀ t, (∀ (j : Nat) (p : Oper), (o :: l)[j]? = some p → p.dst ≠ some t) → a.tmps.get t = a'.tmps.get t) ∧ ∀ (i : Nat) (o' : Oper), (o :: l)[i]? = some o' → ∃ ai si v', At E n all (o :: l) a ((a, s) :: sn) a' s' i o' ai si v') := by
    intro o l a a' s s2 s' sn v hn hd hr hdid ⟨h1, h2, h3, h4, h5⟩
    have hf := hr.first
    refine ⟨by simp [h1], h2.trans (A.upd_n ..), h3.trans (A.upd_marks ..), fun t ht => ?_, fun i o' hi => ?_⟩
    · rw [← h4 t fun j p hp => ht (j + 1) p (by simpa using hp), A.upd_get_ne]
      exact ht 0 o rfl
    · cases i with
      | zero =>
        cases hi
        refine ⟨a, s, v, rfl, hd, fun t _ => rfl, fun t ht => ?_, fun d hde hne => ?_, ?_⟩
        · rw [← h4 t fun j p hp => ht (j + 1) p (by simpa using hp) (Nat.zero_le _), A.upd_get_ne]
          exact ht 0 o rfl (Nat.le_refl _)
        · rw [← h4 d fun j p hp => hne (j + 1) p (by simpa using hp) (Nat.succ_pos _), hde]
          exact T.get_upd_same _ _ (Nat.lt_trans (hd d hde) (Nat.lt_trans hn (by decide)))
        · rw [stAt_succ, hf]
          rcases hdid with ⟨g1, g2, g3⟩ | g
          · exact .inl ⟨g1, g2, g3⟩
          · exact .inr g
      | succ i =>
        obtain ⟨ai, si, v', k1, k2, k3, k4, k5, k6⟩ := h5 i o' (by simpa using hi)
        refine ⟨ai, si, v', by simpa using k1, fun d hde => by have := k2 d hde; rwa [A.upd_n] at this, fun t ht => ?_, fun t ht => ?_, fun d hde hne => ?_, ?_⟩
        · rw [k3 t fun j p hp hj => ht (j + 1) p (by simpa using hp) (Nat.succ_lt_succ hj), A.upd_get_ne]
          exact ht 0 o rfl (Nat.succ_pos _)
        · exact k4 t fun j p hp hj => ht (j + 1) p (by simpa using hp) (Nat.succ_le_succ hj)
        · exact k5 d hde fun j p hp hj => hne (j + 1) p (by simpa using hp) (Nat.succ_lt_succ hj)
        · rw [stAt_succ]; exact k6
  induction h with
  | nil a s => exact ⟨rfl, rfl, rfl, fun _ _ => rfl, fun i o hi => by simp at hi⟩
  | skip hw hd hr ih => exact key hn hd hr (.inl ⟨hw, rfl, rfl⟩) (ih (by rw [A.upd_n]; exact hn))
  | op hw hx hm hg hd hr ih => exact key hn hd hr (.inr ⟨hw, _, _, _, hm, hx, hg⟩) (ih (by rw [A.upd_n]; exact hn))

theorem louds_at : ∀ (l : List Oper) (c i : Nat) (o : Oper), l[i]? = some o → (louds l c)[i]? = some (if quiet o.op then none else some (c + cnt l i))
  | [], c, i, o, h => by simp at h
  | p :: l, c, 0, o, h => by
    simp at h; subst h
    unfold louds
    cases hq : quiet p.op <;> simp [cnt]
  | p :: l, c, i + 1, o, h => by
    have h' : l[i]? = some o := by simpa using h
    unfold louds
    rw [cnt_succ]
    cases hq : quiet p.op with
    | true => simpa using louds_at l c i o h'
    | false =>
      simp only [List.getElem?_cons_succ]
      rw [louds_at l (Nat.succ c) i o h']
      simp only [Nat.succ_eq_add_one, Bool.false_eq_true, if_false]
      cases quiet o.op <;> simp <;> omega
theorem cnt_le (l : List Oper) : ∀ {i j : Nat}, i ≤ j → cnt l i ≤ cnt l j := by
  intro i j h
  unfold cnt
  exact List.Sublist.countP_le (List.take_sublist_take_left h)
theorem cnt_loud {l : List Oper} {i : Nat} {o : Oper} (h : l[i]? = some o) (hq : quiet o.op = false) : cnt l (i + 1) = cnt l i + 1 := by
  unfold cnt
  rw [List.take_add_one, h]
  simp [hq]

end Go.Can

/-
  THE CANONICAL INTERPRETER'S SOUNDNESS, twentieth part: a region whose order is open, whole.
-/
namespace Go.Can
variable {P : Program} {E : Env} {ρ : Ren} {s s' : St} {w : World} {nx : Nx}

inductive Sched (ops : Array Oper) : (Nat → Prop) → List Nat → Prop
  | nil {X : Nat → Prop} : (∀ i, i < ops.size → X i) → Sched ops X []
  | cons {X : Nat → Prop} {i : Nat} {L : List Nat} {o : Oper} : ops[i]? = some o → ¬ X i → (∀ e ∈ o.after, Region.binds .any e = true → X e.on) → Sched ops (fun j => j = i ∨ X j) L → Sched ops X (i :: L)

theorem countP_lt {p q : Nat → Bool} (h : ∀ j, q j = true → p j = true) {i : Nat} (hp : p i = true) (hq : q i = false) : ∀ l : List Nat, i ∈ l → l.countP q < l.countP p
  | [], hi => by cases hi
  | j :: l, hi => by
    have hm : l.countP q ≤ l.countP p := List.countP_mono_left fun j _ => h j
    rw [List.countP_cons, List.countP_cons]
    cases hi with
    | head => rw [hp, hq]; simp; omega
    | tail _ hm' =>
      have := countP_lt h hp hq l hm'
      cases hqj : q j with
      | true => rw [h j hqj]; simp; omega
      | false => cases hpj : p j <;> simp <;> omega

theorem sched_go {ops : Array Oper} (hb : ∀ (i : Nat) (o : Oper), ops[i]? = some o → ∀ e ∈ o.after, Region.binds .any e = true → e.on < i) : ∀ (fuel t : Nat) (listed : Array Bool), listed.size = ops.size →
    (List.range ops.size).countP (fun i => !listed.getD i false) ≤ fuel → Sched ops (fun j => listed.getD j false = true) (Region.linearise.go .any ops fuel t listed []) := by
  intro fuel
  induction fuel with
  | zero =>
    intro t listed hs hc
    simp only [Region.linearise.go, List.reverse_nil]
    refine .nil fun i hi => ?_
    have := List.countP_eq_zero.1 (Nat.le_zero.1 hc) i (List.mem_range.2 hi)
    simpa using this
  | succ fuel ih =>
    intro t listed hs hc
    simp only [Region.linearise.go]
    change Sched ops _ (match (Region.ready .any ops listed)[t % (Region.ready .any ops listed).length]? with
      | some i => Region.linearise.go .any ops fuel (t / (Region.ready .any ops listed).length) (listed.setIfInBounds i true) [i]
      | none => [].reverse)
    cases hi : (Region.ready .any ops listed)[t % (Region.ready .any ops listed).length]? with
    | none =>
      have hnil : Region.ready .any ops listed = [] := by
        cases hr : Region.ready .any ops listed with
        | nil => rfl
        | cons x xs =>
          rw [hr] at hi
          have hlt : t % (x :: xs).length < (x :: xs).length := Nat.mod_lt _ (by simp)
          simp at hi
          simp at hlt
          omega
      simp only [List.reverse_nil]
      refine .nil ?_
      intro i
      induction i using Nat.strongRecOn with
      | _ i ihi =>
        intro hlt
        cases hg : listed.getD i false with
        | true => rfl
        | false =>
          exfalso
          have ho : ops[i]? = some ops[i] := Array.getElem?_eq_getElem hlt
          have : i ∈ Region.ready .any ops listed := mem_ready.2 ⟨by
            have : i < listed.size := by omega
            simpa [this] using hg, _, ho, fun e he hbi => ihi e.on (hb i _ ho e he hbi) (Nat.lt_trans (hb i _ ho e he hbi) hlt)⟩
          rw [hnil] at this
          cases this
    | some i =>
      simp only []
      rw [linearise_go_acc, List.reverse_singleton, List.singleton_append]
      obtain ⟨h0, o, ho, hall⟩ := mem_ready.1 (List.mem_of_getElem? hi)
      have hlt : i < ops.size := (Array.getElem?_eq_some_iff.1 ho).1
      have hlt' : i < listed.size := by omega
      have h0' : listed.getD i false = false := by simpa [hlt'] using h0
      refine .cons ho (by rw [h0']; simp) hall ?_
      have hX : (fun j => j = i ∨ listed.getD j false = true) = (fun j => (listed.setIfInBounds i true).getD j false = true) := by
        funext j
        by_cases hj : i = j
        · subst hj; simp [hlt']
        · rw [getD_set_ne false hj]; simp [Ne.symm hj]
      rw [hX]
      refine ih _ _ (by simpa using hs) (Nat.le_of_lt_succ (Nat.lt_of_lt_of_le (countP_lt (i := i) (fun j hj => ?_) ?_ ?_ _ (List.mem_range.2 hlt)) hc))
      · by_cases hji : i = j
        · subst hji; rw [h0']; rfl
        · rwa [getD_set_ne false hji] at hj
      · rw [h0']; rfl
      · simp [hlt']
theorem sched_of {ops : Array Oper} (hb : ∀ (i : Nat) (o : Oper), ops[i]? = some o → ∀ e ∈ o.after, Region.binds .any e = true → e.on < i) (t : Nat) : Sched ops (fun _ => False) (Region.linearise .any ops t) := by
  have := sched_go hb ops.size t (Array.replicate ops.size false) (by simp) (Nat.le_trans List.countP_le_length (by simp))
  have hX : (fun j => (Array.replicate ops.size false).getD j false = true) = (fun _ => False) := by
    funext j
    simp only [Array.getD_eq_getD_getElem?, Array.getElem?_replicate]
    split <;> simp
  rw [hX] at this
  exact this

theorem lbOf_le {ld : List (Option Nat)} {acc : List Nat} {k : Nat} : ∀ (es : List Edge), (∀ e ∈ es, binds e = true → (match ld[e.on]? with | some (some m) => Nat.succ m | _ => (acc[e.on]?).getD 0) ≤ k) → lbOf ld acc es ≤ k
  | [], _ => Nat.zero_le _
  | e :: es, h => by
    have ih := lbOf_le es fun x hx => h x (by simp [hx])
    unfold lbOf
    cases hb : binds e with
    | false => exact ih
    | true => exact Nat.max_le.2 ⟨h e (by simp) hb, ih⟩
theorem lbs_at {ld : List (Option Nat)} : ∀ (l : List Oper) (acc r : List Nat), lbs ld l acc = some r → (∃ r', r = acc ++ r') ∧
    ∀ (i : Nat) (o : Oper), l[i]? = some o → (∀ e ∈ o.after, binds e = true → e.on < acc.length + i) ∧ r[acc.length + i]? = some (lbOf ld (r.take (acc.length + i)) o.after.toList)
  | [], acc, r, h => by simp [lbs] at h; subst h; exact ⟨⟨[], by simp⟩, fun i o hi => by simp at hi⟩
  | p :: l, acc, r, h => by
    simp only [lbs] at h
    split at h
    · cases h
    · rename_i hall
      rw [fN_eq, fL_eq] at h
      obtain ⟨⟨r', hr'⟩, hat⟩ := lbs_at l _ r h
      refine ⟨⟨_ :: r', by rw [hr']; simp; rfl⟩, fun i o hi => ?_⟩
      cases i with
      | zero =>
        simp at hi; subst hi
        constructor
        · intro e he hb
          have := List.all_eq_true.1 hall e (Array.mem_toList_iff.2 he)
          rw [hb] at this
          simp only [Bool.not_true, Bool.false_or, blt_true] at this
          exact this
        · rw [hr']; simp
      | succ i =>
        have := hat i o (by simpa using hi)
        simp only [List.length_append, List.length_cons, List.length_nil] at this
        have e1 : acc.length + (0 + 1) + i = acc.length + (i + 1) := by omega
        rw [e1] at this
        exact this

theorem ubOf_ge {ld : List (Option Nat)} {i M k : Nat} (hM : k ≤ M) : ∀ (r : List (Nat × Oper × Nat)), (∀ p ∈ r, (p.2.1.after.toList.any fun e => binds e && Nat.beq e.on i) = true → k ≤ (match ld[p.1]? with | some (some m) => m | _ => p.2.2)) → k ≤ ubOf ld i M r
  | [], _ => hM
  | (j, o, u) :: r, h => by
    have ih := ubOf_ge hM r fun x hx => h x (by simp [hx])
    unfold ubOf
    cases hb : (o.after.toList.any fun e => binds e && Nat.beq e.on i) with
    | false => exact ih
    | true => exact Nat.le_min.2 ⟨h (j, o, u) (by simp) hb, ih⟩
theorem ubs_mem {ld : List (Option Nat)} {M : Nat} : ∀ (l : List Oper) (i j : Nat) (o : Oper), l[j]? = some o → ∃ u, (i + j, o, u) ∈ ubs ld M i l
  | [], _, _, _, h => by simp at h
  | p :: l, i, 0, o, h => by
    simp at h; subst h
    simp only [ubs]
    rw [fN_eq]
    exact ⟨_, List.mem_cons_self ..⟩
  | p :: l, i, j + 1, o, h => by
    obtain ⟨u, hu⟩ := ubs_mem (ld := ld) (M := M) l (Nat.succ i) j o (by simpa using h)
    simp only [ubs]
    rw [fN_eq]
    refine ⟨u, List.mem_cons_of_mem _ ?_⟩
    have : i + (j + 1) = Nat.succ i + j := by omega
    rw [this]
    exact hu
theorem ubs_ge {ops : Array Oper} {ld : List (Option Nat)} {M k : Nat} {X : Nat → Prop} (hM : k ≤ M) (hl : ∀ j m : Nat, ld[j]? = some (some m) → ¬ X j → k ≤ m)
    (hdown : ∀ (j : Nat) (o : Oper), X j → ops[j]? = some o → ∀ e ∈ o.after, binds e = true → X e.on) : ∀ (l : List Oper) (i : Nat), (∀ (j : Nat) (o : Oper), l[j]? = some o → ops[i + j]? = some o) → ∀ p ∈ ubs ld M i l, ops[p.1]? = some p.2.1 ∧ (¬ X p.1 → k ≤ p.2.2)
  | [], _, _, p, hp => by simp [ubs] at hp
  | q :: l, i, h, p, hp => by
    have ih := ubs_ge hM hl hdown l (Nat.succ i) fun j o ho => by
      have := h (j + 1) o (by simpa using ho)
      have e : Nat.succ i + j = i + (j + 1) := by omega
      rw [e]; exact this
    simp only [ubs] at hp
    rw [fN_eq] at hp
    cases hp with
    | head =>
      refine ⟨h 0 q rfl, fun hx => ubOf_ge hM _ fun p hp hany => ?_⟩
      obtain ⟨h1, h2⟩ := ih p hp
      have hnx : ¬ X p.1 := fun hxp => by
        obtain ⟨e, he, hb⟩ := List.any_eq_true.1 hany
        simp only [Bool.and_eq_true, beq_true] at hb
        exact hx (hb.2 ▸ hdown _ _ hxp h1 e (Array.mem_toList_iff.1 he) hb.1)
      split
      · rename_i m hm; exact hl _ _ hm hnx
      · exact h2 hnx
    | tail _ hp => exact ih p hp

theorem quietAt_mem {a : A} {o : Oper} {v : Value} : ∀ {l : List St} {st : St}, quietAt E a o v l = true → st ∈ l → ∃ x s1, exec E a.ev o st = some (.value x, s1) ∧ x = v
  | [], _, _, h => by cases h
  | t :: l, st, h, hm => by
    simp only [quietAt, Bool.and_eq_true] at h
    cases hm with
    | head =>
      have h1 := h.1
      split at h1
      · rename_i x s1 hx; exact ⟨x, s1, hx, veq_eq 4 _ _ h1⟩
      · cases h1
    | tail _ hm => exact quietAt_mem h.2 hm
theorem rangeOf_mem {α : Type} {l : List α} {k b u : Nat} {x : α} (h : l[k]? = some x) (hb : b ≤ k) (hu : k ≤ u) : x ∈ rangeOf l b u := by
  refine List.mem_of_getElem? (i := k - b) ?_
  unfold rangeOf
  rw [List.getElem?_take, if_pos (by omega), List.getElem?_drop]
  have : b + (k - b) = k := by omega
  rw [this]; exact h

theorem dsts_unique : ∀ {l : List Oper}, dstsOK l = true → ∀ (i j : Nat) (o p : Oper) (d : Tmp), l[i]? = some o → l[j]? = some p → o.dst = some d → p.dst = some d → i = j
  | [], _, i, j, o, p, d, hi, _, _, _ => by simp at hi
  | q :: l, h, i, j, o, p, d, hi, hj, ho, hp => by
    simp only [dstsOK, Bool.and_eq_true] at h
    have no : ∀ (j : Nat) (p : Oper), l[j]? = some p → q.dst = some d → p.dst ≠ some d := by
      intro j p hj hq hp
      have h1 := h.1
      rw [hq] at h1
      simp only at h1
      have := List.all_eq_true.1 h1 p (List.mem_of_getElem? hj)
      rw [hp] at this
      simp at this
    cases i with
    | zero => cases j with
      | zero => rfl
      | succ j => simp at hi; subst hi; exact absurd hp (no j p (by simpa using hj) ho)
    | succ i => cases j with
      | zero => simp at hj; subst hj; exact absurd ho (no i o (by simpa using hi) hp)
      | succ j => rw [dsts_unique h.2 i j o p d (by simpa using hi) (by simpa using hj) ho hp]

/-! ### the region -/
structure Inv (ops : Array Oper) (stages : List St) (lb : List Nat) (a a' : A) (X : Nat → Prop) (k : Nat) (ρ : Ren) (w : World) (a2 : Act) : Prop where
  stage : ∃ st, stages[k]? = some st ∧ HR ρ st w
  loud : ∀ i m : Nat, (louds ops.toList 0)[i]? = some (some m) → (X i ↔ m < k)
  low : ∀ j b, X j → lb[j]? = some b → b ≤ k
  down : ∀ (j : Nat) (o : Oper), X j → ops[j]? = some o → ∀ e ∈ o.after, binds e = true → X e.on
  size : a2.tmps.size = a.n
  marks : F2 (Mark ρ) a.marks a2.defers
  out : ∀ t, (∀ (j : Nat) (o : Oper), X j → ops[j]? = some o → o.dst ≠ some t) → VR ρ ((a.tmps.get t).getD undef) (a2.tmps.getD t undef)
  done : ∀ t (j : Nat) (o : Oper), X j → ops[j]? = some o → o.dst = some t → VR ρ ((a'.tmps.get t).getD undef) (a2.tmps.getD t undef)

/-- what 'drawOK' says of one operation -/
structure One (E : Env) (ops : Array Oper) (sn : List (A × St)) (a' : A) (stages : List St) (lb : List Nat) (ub : List (Nat × Oper × Nat)) (i : Nat) (o : Oper) (u : Nat) : Prop where
  mem : (i, o, u) ∈ ub
  reads : readsOK ops.toList o i = true
  guard : guardOK o = true
  fit : (match (louds ops.toList 0)[i]?, lb[i]?, sn[i]? with
          | some (some m), some b, _ => Nat.ble m b
          | some none, some b, some sn => match wanted ops.toList sn.1 o with
            | some false => true
            | some true => match o.dst with
              | some d => quietAt E sn.1 o ((a'.tmps.get d).getD undef) (rangeOf stages b u)
              | none => false
            | none => false
          | _, _, _ => false) = true
theorem drawOK_inv {ops : Array Oper} {sn : List (A × St)} {a' : A} (h : drawOK E ops.toList sn a' s' = true) : ∃ lb, lbs (louds ops.toList 0) ops.toList [] = some lb ∧ dstsOK ops.toList = true ∧
    ∀ (i : Nat) (o : Oper), ops[i]? = some o → ∃ u, One E ops sn a' (stagesOf ops.toList sn s') lb (ubs (louds ops.toList 0) ((stagesOf ops.toList sn s').length - 1) 0 ops.toList) i o u := by
  unfold drawOK at h
  simp only at h
  split at h
  · cases h
  · rename_i lb hlb
    simp only [Bool.and_eq_true] at h
    obtain ⟨⟨_, h2⟩, h3⟩ := h
    refine ⟨lb, hlb, h2, fun i o ho => ?_⟩
    obtain ⟨u, hu⟩ := ubs_mem (ld := louds ops.toList 0) (M := (stagesOf ops.toList sn s').length - 1) ops.toList 0 i o (by simpa using ho)
    rw [Nat.zero_add] at hu
    have := List.all_eq_true.1 h3 _ hu
    simp only [Bool.and_eq_true] at this
    exact ⟨u, hu, this.1.1, this.1.2, this.2⟩

theorem Act.put_size (a : Act) (d : Option Tmp) (v : Value) : (a.put d v).tmps.size = a.tmps.size := by cases d <;> simp [Act.put]
theorem Act.put_defers' (a : Act) (d : Option Tmp) (v : Value) : (a.put d v).defers = a.defers := by cases d <;> rfl
theorem Act.put_ne (a : Act) {d : Option Tmp} (v : Value) {t : Nat} (h : d ≠ some t) : (a.put d v).tmps.getD t undef = a.tmps.getD t undef := by
  cases d with
  | none => rfl
  | some d => simp [Act.put, Array.getElem?_setIfInBounds_ne (fun hh => h (hh ▸ rfl) : d ≠ t)]
theorem Act.put_same (a : Act) {t : Nat} (v : Value) (h : t < a.tmps.size) : (a.put (some t) v).tmps.getD t undef = v := by simp [Act.put, h]

section
variable {ops : Array Oper} {n : Nat} {a a' : A} {sn : List (A × St)}

theorem draw_steps (hE : EnvOK P E) (hm : ∀ m < n, GoodNx P E m) (hr : Run E n ops.toList ops.toList a s sn a' s') (hok : drawOK E ops.toList sn a' s' = true) (t : Nat)
    (h : HR ρ s w) {a2 : Act} (ha : AR ρ a a2) (b : Frame) (k : List Item) (cs : List Frame) :
    ∃ ρ' a2' w', HR ρ' s' w' ∧ Ev ρ w ρ' w' ∧ AR ρ' a' a2' ∧ Steps P (lone (b.atR a2 (.inRegion ops (Region.linearise .any ops t) :: k)) cs w) (lone (b.atR a2' k) cs w') := by
  have hn : a.n < 65536 := ha.tmps.2.1
  obtain ⟨hlen, hn', hmk, hsame, hat⟩ := run_at hr hn
  obtain ⟨lb, hlb, hdst, hone⟩ := drawOK_inv hok
  obtain ⟨_, hlbat⟩ := lbs_at _ _ _ hlb
  simp only [List.length_nil, Nat.zero_add] at hlbat
  have hget : ∀ {i : Nat} {o : Oper}, ops[i]? = some o → ops.toList[i]? = some o := fun ho => by simpa using ho
  have hget' : ∀ {i : Nat} {o : Oper}, ops.toList[i]? = some o → ops[i]? = some o := fun ho => by simpa using ho
  have hback : ∀ (i : Nat) (o : Oper), ops[i]? = some o → ∀ e ∈ o.after, binds e = true → e.on < i := fun i o ho => (hlbat i o (hget ho)).1
  have huniq : ∀ {i j : Nat} {o p : Oper} {d : Tmp}, ops[i]? = some o → ops[j]? = some p → o.dst = some d → p.dst = some d → i = j := fun hi hj ho hp => dsts_unique hdst _ _ _ _ _ (hget hi) (hget hj) ho hp
  generalize hst : stagesOf ops.toList sn s' = stages at *
  have hstage : ∀ i, i ≤ ops.size → stages[cnt ops.toList i]? = some (stAt sn s' i) := fun i hi => by rw [← hst]; exact stages_at hr i (by simpa using hi)
  have hslen : stages.length = cnt ops.toList ops.size + 1 := by rw [← hst, stages_length _ _ _ hlen]; simp
  have hld : ∀ (i : Nat) (o : Oper), ops[i]? = some o → (louds ops.toList 0)[i]? = some (if quiet o.op then none else some (cnt ops.toList i)) := fun i o ho => by
    have := louds_at ops.toList 0 i o (hget ho); simpa using this
  -- the steps
  have main : ∀ (L : List Nat) (X : Nat → Prop), Sched ops X L → ∀ (kk : Nat) (ρ : Ren) (w : World) (a2 : Act), Inv ops stages lb a a' X kk ρ w a2 →
      ∃ ρ' a2' w' k2, Inv ops stages lb a a' (fun i => i < ops.size) k2 ρ' w' a2' ∧ Ev ρ w ρ' w' ∧ Steps P (lone (b.atR a2 (.inRegion ops L :: k)) cs w) (lone (b.atR a2' (.inRegion ops [] :: k)) cs w') := by
    intro L X hs
    induction hs with
    | @nil X hall =>
      intro kk ρ w a2 hi
      refine ⟨ρ, a2, w, kk, ⟨hi.stage, fun i m hm => ?_, fun j b hj => ?_, fun j o hj ho e he hb => ?_, hi.size, hi.marks, fun t ht => ?_, fun t j o hj => ?_⟩, Ev.refl ρ w, Steps.refl ..⟩
      · have hlt : i < ops.size := by
          have := (List.getElem?_eq_some_iff.1 hm).1
          by_cases hlt : i < ops.size
          · exact hlt
          · exfalso
            have : (louds ops.toList 0).length = ops.toList.length := by
              have : ∀ (l : List Oper) (c : Nat), (louds l c).length = l.length := by
                intro l
                induction l with
                | nil => intro c; rfl
                | cons o l ih => intro c; unfold louds; cases quiet o.op <;> simp [ih]
              exact this _ _
            simp at this
            omega
        exact ⟨fun _ => (hi.loud i m hm).1 (hall i hlt), fun _ => hlt⟩
      · exact hi.low j b (hall j hj)
      · exact Nat.lt_trans (hback j o ho e he hb) hj
      · exact hi.out t fun j o _ ho => ht j o ((Array.getElem?_eq_some_iff.1 ho).1) ho
      · exact hi.done t j o (hall j hj)
    | @cons X i L o ho hx hedge _ ih =>
      intro kk ρ w a2 hi
      obtain ⟨st, hst1, hHR⟩ := hi.stage
      obtain ⟨ai, si, v, hA⟩ := hat i o (hget ho)
      obtain ⟨u, hO⟩ := hone i o ho
      have hlt : i < ops.size := (Array.getElem?_eq_some_iff.1 ho).1
      have hkM : kk ≤ stages.length - 1 := by
        have := (List.getElem?_eq_some_iff.1 hst1).1
        omega
      have hlow : ∃ bb, lb[i]? = some bb ∧ bb ≤ kk := by
        obtain ⟨_, hb⟩ := hlbat i o (hget ho)
        refine ⟨_, hb, lbOf_le _ fun e he hbe => ?_⟩
        have he' := Array.mem_toList_iff.1 he
        have hX := hedge e he' hbe
        have hlte := hback i o ho e he' hbe
        split
        · rename_i m hm
          exact (hi.loud _ _ hm).1 hX
        · rw [List.getElem?_take, if_pos hlte]
          cases hh : lb[e.on]? with
          | none => exact Nat.zero_le _
          | some q => exact hi.low _ _ hX hh
      obtain ⟨bb, hbb, hble⟩ := hlow
      have hup : kk ≤ u := (ubs_ge (ops := ops) (X := X) hkM (fun j m hm hj => Nat.le_of_not_lt fun hlt => hj ((hi.loud j m hm).2 hlt)) hi.down ops.toList 0 (fun j p hp => by simpa using hp) _ hO.mem).2 hx
      -- the operands
      have hop : ∀ t, Operand.tmp t ∈ o.op.operands.toList → VR ρ ((ai.tmps.get t).getD undef) (a2.tmps.getD t undef) := by
        intro t ht
        have hreads := List.all_eq_true.1 hO.reads _ ht
        simp only at hreads
        by_cases hex : ∃ (j : Nat) (p : Oper), ops[j]? = some p ∧ p.dst = some t
        · obtain ⟨j, p, hp, hd⟩ := hex
          have := List.all_eq_true.1 hreads (p, j) (List.mem_zipIdx_iff_getElem?.2 (hget hp))
          simp only [hd] at this
          have htt : Nat.beq t t = true := beq_true.2 rfl
          rw [htt] at this
          simp only [Bool.or_eq_true] at this
          rcases this with h1 | h1
          · obtain ⟨e, he, hbe⟩ := List.any_eq_true.1 h1
            simp only [Bool.and_eq_true, beq_true] at hbe
            have hX := hedge e (Array.mem_toList_iff.1 he) hbe.1
            have hl := hback i o ho e (Array.mem_toList_iff.1 he) hbe.1
            rw [hbe.2] at hX hl
            rw [hA.behind t fun j' p' hp' hj' hd' => by have := huniq hp (hget' hp') hd hd'; omega]
            exact hi.done t j p hX hp hd
          · obtain ⟨e, he, hbe⟩ := List.any_eq_true.1 h1
            simp only [Bool.and_eq_true, beq_true] at hbe
            have hl := hback j p hp e (Array.mem_toList_iff.1 he) hbe.1
            rw [hbe.2] at hl
            have hnj : ¬ X j := fun hxj => hx (hbe.2 ▸ hi.down j p hxj hp e (Array.mem_toList_iff.1 he) hbe.1)
            rw [hA.before t fun j' p' hp' hj' hd' => by have := huniq hp (hget' hp') hd hd'; omega]
            exact hi.out t fun j' p' hxj hp' hd' => by have := huniq hp hp' hd hd'; subst this; exact hnj hxj
        · rw [hA.before t fun j' p' hp' _ hd' => hex ⟨j', p', hget' hp', hd'⟩]
          exact hi.out t fun j' p' _ hp' hd' => hex ⟨j', p', hp', hd'⟩
      have hguard : ∀ g b og d, o.guard = some (g, b) → ops[g]? = some og → og.dst = some d → VR ρ ((ai.tmps.get d).getD undef) (a2.tmps.getD d undef) := by
        intro g b og d hg hog hd
        have h1 := hO.guard
        unfold guardOK at h1
        rw [hg] at h1
        obtain ⟨e, he, hbe⟩ := List.any_eq_true.1 h1
        simp only [Bool.and_eq_true, beq_true] at hbe
        have hX := hedge e (Array.mem_toList_iff.1 he) hbe.1
        have hl := hback i o ho e (Array.mem_toList_iff.1 he) hbe.1
        rw [hbe.2] at hX hl
        rw [hA.behind d fun j' p' hp' hj' hd' => by have := huniq hog (hget' hp') hd hd'; omega]
        exact hi.done d g og hX hog hd
      have hfin : ∀ d, o.dst = some d → a'.tmps.get d = some v := fun d hd => hA.final d hd fun j p hp hj hd' => by have := huniq ho (hget' hp) hd hd'; omega
      -- the invariant, one operation on
      have step : ∀ (k2 : Nat) (ρ2 : Ren) (w2 : World) (u2 : Value), ρ.le ρ2 → (∃ st, stages[k2]? = some st ∧ HR ρ2 st w2) → k2 = (if quiet o.op then kk else kk + 1) → (quiet o.op = false → cnt ops.toList i = kk) → VR ρ2 v u2 →
          Inv ops stages lb a a' (fun j => j = i ∨ X j) k2 ρ2 w2 (a2.put o.dst u2) := by
        intro k2 ρ2 w2 u2 hle hst2 hk2 hqk hv
        have hkle : kk ≤ k2 := by rw [hk2]; split <;> omega
        refine ⟨hst2, fun j m hjm => ?_, fun j q hj hq => ?_, fun j p hj hp e he hbe => ?_, (Act.put_size ..).trans hi.size, by rw [Act.put_defers']; exact hi.marks.mono fun _ _ => Mark.mono hle, fun t ht => ?_, fun t j p hj hp hd => ?_⟩
        · have hjlt : j < ops.size := by
            rcases Nat.lt_or_ge j ops.size with h1 | h1
            · exact h1
            · exfalso
              have hl : ∀ (l : List Oper) (c : Nat), (louds l c).length = l.length := by
                intro l
                induction l with
                | nil => intro c; rfl
                | cons o l ih => intro c; unfold louds; cases quiet o.op <;> simp [ih]
              have := (List.getElem?_eq_some_iff.1 hjm).1
              rw [hl] at this
              simp at this
              omega
          have hoj := Array.getElem?_eq_getElem hjlt
          have hl := hld j _ hoj
          rw [hjm] at hl
          cases hqj : quiet ops[j].op with
          | true => rw [hqj] at hl; simp at hl
          | false =>
            rw [hqj] at hl
            simp at hl
            subst hl
            have hX := hi.loud j _ hjm
            cases hq : quiet o.op with
            | true =>
              rw [hq] at hk2; simp at hk2; subst hk2
              have hne : j ≠ i := fun hh => by subst hh; rw [ho] at hoj; cases hoj; rw [hq] at hqj; cases hqj
              simp [hne, hX]
            | false =>
              rw [hq] at hk2; simp at hk2
              have hc := hqk hq
              by_cases hji : j = i
              · subst hji; simp; omega
              · simp only [hji, false_or]
                rw [hX]
                have hne : cnt ops.toList j ≠ kk := by
                  rcases Nat.lt_or_gt_of_ne hji with h1 | h1
                  · have hcl := cnt_le ops.toList (show _ + 1 ≤ _ from h1)
                    have := cnt_loud (hget hoj) hqj
                    omega
                  · have hcl := cnt_le ops.toList (show _ + 1 ≤ _ from h1)
                    have := cnt_loud (hget ho) hq
                    omega
                omega
        · rcases hj with rfl | hj
          · rw [hbb] at hq; cases hq; omega
          · have := hi.low j q hj hq; omega
        · rcases hj with rfl | hj
          · rw [ho] at hp; cases hp
            exact .inr (hedge e he hbe)
          · exact .inr (hi.down j p hj hp e he hbe)
        · have hne : o.dst ≠ some t := ht i o (.inl rfl) ho
          rw [Act.put_ne _ _ hne]
          exact (hi.out t fun j p hj hp => ht j p (.inr hj) hp).mono hle
        · rcases hj with rfl | hj
          · rw [ho] at hp; cases hp
            rw [hd, Act.put_same _ _ (by rw [hi.size]; exact hA.dst t hd), hfin t hd]
            exact hv
          · have hne : o.dst ≠ some t := fun hh => by have := huniq ho hp hh hd; subst this; exact hx hj
            rw [Act.put_ne _ _ hne]
            exact (hi.done t j p hj hp hd).mono hle
      have hfit := hO.fit
      rw [hbb, hA.snap, hld i o ho] at hfit
      have hloudk : quiet o.op = false → cnt ops.toList i = kk := by
        intro hq
        rw [hq] at hfit
        simp only [Bool.false_eq_true, if_false, ble_true] at hfit
        have h1 := hld i o ho
        rw [hq] at h1
        have h2 := hi.loud i (cnt ops.toList i) (by simpa using h1)
        have : ¬ cnt ops.toList i < kk := fun hh => hx (h2.2 hh)
        omega
      have hsi : stAt sn s' i = si := by simp [stAt, hA.snap]
      rcases hA.did with ⟨hw, hv, hsn⟩ | ⟨hw, x, s1, m, hmn, hxx, hgo⟩
      · -- not wanted
        have hwr := wanted_ok (a2 := a2) hw hguard
        have hnew : ∃ st, stages[if quiet o.op then kk else kk + 1]? = some st ∧ HR ρ st w := by
          cases hq : quiet o.op with
          | true => exact ⟨st, hst1, hHR⟩
          | false =>
            have hc := hloudk hq
            have h1 := hstage (i + 1) hlt
            rw [cnt_loud (hget ho) hq, hc, hsn] at h1
            have h2 := hstage i (Nat.le_of_lt hlt)
            rw [hc, hsi, hst1] at h2
            cases h2
            exact ⟨_, h1, hHR⟩
        obtain ⟨ρ', a2', w', k2, g1, g2, g3⟩ := ih _ ρ w _ (step _ ρ w undef (.refl ρ) hnew rfl hloudk (by rw [hv]; exact VR.undef))
        refine ⟨ρ', a2', w', k2, g1, g2, .head (stepR_op_skip (by simp [ho, hwr])) ?_⟩
        simpa [ho] using g3
      · have hwr := wanted_ok (a2 := a2) hw hguard
        cases hq : quiet o.op with
        | true =>
          rw [hq] at hfit
          simp only [if_true, hw] at hfit
          split at hfit
          · rename_i d hd
            obtain ⟨y, s3, hy, hyv⟩ := quietAt_mem hfit (rangeOf_mem hst1 hble hup)
            obtain ⟨hs3, _⟩ := quiet_state hq hy
            subst hs3
            rw [hfin d hd] at hyv
            simp only [Option.getD_some] at hyv
            subst hyv
            obtain ⟨ρ1, u1, w1, h1, e1, hv1, hs1⟩ := op_step hE hy (fun ρ w nx2 h hn fr cs => good_value h hn fr cs) hHR hop ho hwr b L k cs
            obtain ⟨ρ', a2', w', k2, g1, g2, g3⟩ := ih _ ρ1 w1 _ (step kk ρ1 w1 u1 e1.le ⟨_, hst1, h1⟩ (by simp [hq]) hloudk hv1)
            exact ⟨ρ', a2', w', k2, g1, e1.trans g2, hs1.trans g3⟩
          · cases hfit
        | false =>
          have hc := hloudk hq
          have h2 := hstage i (Nat.le_of_lt hlt)
          rw [hc, hsi, hst1] at h2
          cases h2
          have h3 := hstage (i + 1) hlt
          rw [cnt_loud (hget ho) hq, hc] at h3
          obtain ⟨ρ1, u1, w1, h1, e1, hv1, hs1⟩ := op_step hE hxx (hm m hmn _ _ _ _ hgo) hHR hop ho hwr b L k cs
          obtain ⟨ρ', a2', w', k2, g1, g2, g3⟩ := ih _ ρ1 w1 _ (step (kk + 1) ρ1 w1 u1 e1.le ⟨_, h3, h1⟩ (by simp [hq]) hloudk hv1)
          exact ⟨ρ', a2', w', k2, g1, e1.trans g2, hs1.trans g3⟩
  have h0 : Inv ops stages lb a a' (fun _ => False) 0 ρ w a2 := by
    refine ⟨⟨_, hstage 0 (Nat.zero_le _), ?_⟩, fun i m _ => ⟨False.elim, fun h => by omega⟩, fun _ _ h => h.elim, fun _ _ h => h.elim, ha.tmps.1, ha.marks, fun t _ => ha.tmps.2.2 t, fun _ _ _ h => h.elim⟩
    rw [hr.first]; exact h
  obtain ⟨ρ', a2', w', k2, hI, hev, hs⟩ := main _ _ (sched_of (fun i o ho e he hb => hback i o ho e he hb) t) 0 ρ w a2 h0
  obtain ⟨st, hst1, hHR⟩ := hI.stage
  have hk2 : k2 = cnt ops.toList ops.size := by
    have h1 := (List.getElem?_eq_some_iff.1 hst1).1
    rcases Nat.lt_or_ge k2 (cnt ops.toList ops.size) with h2 | h2
    · exfalso
      -- the loud operation with the number k2
      have : ∀ (j : Nat), j ≤ ops.size → k2 < cnt ops.toList j → False := by
        intro j
        induction j with
        | zero => intro _ h; simp [cnt] at h
        | succ j ihj =>
          intro hj hc
          have hoj := Array.getElem?_eq_getElem (xs := ops) (i := j) hj
          rcases Nat.lt_or_ge k2 (cnt ops.toList j) with h3 | h3
          · exact ihj (Nat.le_of_succ_le hj) h3
          · cases hq : quiet ops[j].op with
            | true =>
              have : cnt ops.toList (j + 1) = cnt ops.toList j := by
                unfold cnt
                rw [List.take_add_one, hget hoj]
                simp [hq]
              omega
            | false =>
              have := cnt_loud (hget hoj) hq
              have hl := hld j _ hoj
              rw [hq] at hl
              have := (hI.loud j (cnt ops.toList j) (by simpa using hl)).1 hj
              omega
      exact this _ (Nat.le_refl _) h2
    · omega
  have hfinal := hstage ops.size (Nat.le_refl _)
  rw [← hk2, hst1] at hfinal
  cases hfinal
  have hsn : stAt sn s' ops.size = s' := by
    have : sn[ops.size]? = none := List.getElem?_eq_none (by rw [hlen]; simp)
    simp [stAt, this]
  rw [hsn] at hHR
  refine ⟨ρ', a2', w', hHR, hev, ⟨⟨by rw [hn']; exact hI.size, by rw [hn']; exact hn, fun t => ?_⟩, by rw [hmk]; exact hI.marks⟩, hs.trans (.one stepR_region_end)⟩
  by_cases hex : ∃ (j : Nat) (p : Oper), ops[j]? = some p ∧ p.dst = some t
  · obtain ⟨j, p, hp, hd⟩ := hex
    exact hI.done t j p ((Array.getElem?_eq_some_iff.1 hp).1) hp hd
  · rw [← hsame t fun j p hp hd => hex ⟨j, p, hget' hp, hd⟩]
    exact hI.out t fun j p _ hp hd => hex ⟨j, p, hp, hd⟩
end

end Go.Can
