/- code, calls, rounds: the theorem, and how tables are shown right. -/
import Derived.Test.YtfiflkjniodbeaaGreatDoorCan6
import Derived.RangeFuncIn
import Derived.RangeFuncLeaves
import Derived.Eval
import Derived.Below
import Derived.Laws.StructEq
/-
  THE CANONICAL INTERPRETER'S SOUNDNESS, last part: code, rounds, calls.
-/
namespace Go.Can
variable {P : Program} {E : Env} {ρ : Ren} {s s' : St} {w : World} {nx : Nx}

theorem stepR_scope {b : Frame} {a : Act} {c : Code} {k : List Item} {cs : List Frame} : step P (lone (b.atR a (.code (.scope c) :: k)) cs w) = .next (lone (b.atR a (.code c :: .inScope c :: k)) cs w) :=
  step_lone_go (by simp [stepG, stepG.exec, Frame.atR])
theorem stepR_inScope {b : Frame} {a : Act} {c : Code} {k : List Item} {cs : List Frame} : step P (lone (b.atR a (.inScope c :: k)) cs w) = .next (lone (b.atR a k) cs w) :=
  step_lone_go (by simp [stepG, stepG.exec, Frame.atR])

/-- where a piece of code comes to -/
def Arr (P : Program) (m : Machine) (b : Frame) (k : List Item) (cs : List Frame) (a : Act) (w : World) : Ex → Prop
  | .normal => Steps P m (lone (b.atR a k) cs w)
  | .exit id => ∃ k1 m1, Steps P m m1 ∧ step P m1 = step P (lone (b.atR a (.code (.exit id) :: k1)) cs w) ∧ exitTo id k1 = exitTo id k
  | .ret => ∃ k1 m1, Steps P m m1 ∧ step P m1 = step P (lone (b.atR a (.code .ret :: k1)) cs w)
theorem Arr.of_steps {m m' : Machine} {b : Frame} {k : List Item} {cs : List Frame} {a : Act} {e : Ex} (h : Steps P m m') (k2 : Arr P m' b k cs a w e) : Arr P m b k cs a w e := by
  cases e with
  | normal => exact h.trans k2
  | exit id => obtain ⟨k1, m1, h1, h2⟩ := k2; exact ⟨k1, m1, h.trans h1, h2⟩
  | ret => obtain ⟨k1, m1, h1, h2⟩ := k2; exact ⟨k1, m1, h.trans h1, h2⟩

inductive RO (ρ : Ren) : Option Nat → Option Nat → Prop
  | none : RO ρ none none
  | some {l r} : ρ l = some r → RO ρ (some l) (some r.blk)
theorem RO.mono {ρ ρ' : Ren} (h : ρ.le ρ') {x y} (k : RO ρ x y) : RO ρ' x y := by
  cases k with
  | none => exact .none
  | some e => exact .some (h _ _ e)

def GoodCode (P : Program) (E : Env) (n : Nat) : Prop := ∀ ro fn c a s e a' s', go E n (.code ro fn c a) s = some (.ex e a', s') → ∀ ρ w a2 b, HR ρ s w → AR ρ a a2 → RO ρ ro b.roundOf → b.fn = fn → b.kind = .normal →
  ∀ k cs m0, step P m0 = step P (lone (b.atR a2 (.code c :: k)) cs w) → ∃ ρ' a2' w', HR ρ' s' w' ∧ Ev ρ w ρ' w' ∧ AR ρ' a' a2' ∧ Arr P m0 b k cs a2' w' e
def GoodCall (P : Program) (E : Env) (n : Nat) : Prop := ∀ f args v s s', go E n (.call f args) s = some (.val v, s') → ∀ ρ w (args2 : Array Value), HR ρ s w → VL ρ args args2.toList → ∀ cs,
  ∃ ρ' u w' fr, HR ρ' s' w' ∧ Ev ρ w ρ' w' ∧ VR ρ' v u ∧ Steps P (lone (Frame.enter P f args2 .normal) cs w) (lone fr cs w') ∧ fr.fn = f ∧ fr.leaving P w' (.returned u)
def GoodRound (P : Program) (E : Env) (n : Nat) : Prop := ∀ l f t m as bd v s s', go E n (.round l f t m as bd) s = some (.val v, s') → ∀ ρ w r t2, HR ρ s w → ρ l = some r → TR ρ t m t2 → ∀ c cs,
  ∃ ρ' u w', HR ρ' s' w' ∧ Ev ρ w ρ' w' ∧ VR ρ' v u ∧ Steps P (lone (Frame.round r.blk f t2 as bd .normal) (c :: cs) w) (lone (c.finish u) cs w')

theorem good_nx {n : Nat} (hc : GoodCall P E n) (hr : GoodRound P E n) : GoodNx P E (n + 1) := by
  intro x s v s' hg ρ w nx2 h hn fr cs
  cases x with
  | value v0 =>
    simp only [go] at hg
    cases hg
    exact good_value h hn fr cs
  | enter f args =>
    simp only [go] at hg
    cases nx2 <;> simp only [NxR] at hn
    obtain ⟨rfl, ha⟩ := hn
    obtain ⟨ρ', u, w', fr', h1, h2, h3, h4, _, h6⟩ := hc _ _ _ _ _ hg ρ w _ h ha (fr :: cs)
    exact ⟨ρ', u, w', h1, h2, h3, h4.trans (.one (step_leave_returned h6))⟩
  | round l f t m as bd d =>
    simp only [go] at hg
    cases nx2 <;> simp only [NxR] at hn
    obtain ⟨⟨r, hr1, rfl⟩, rfl, ht, rfl, rfl, _⟩ := hn
    exact hr _ _ _ _ _ _ _ _ _ hg ρ w r _ h hr1 ht fr cs

/-! ### records of loops -/
theorem loop_set (h : HR ρ s w) {l : Nat} {st st' : LoopState} {pend pend' : Option Code} {fn : Nat} {tmps : T Value} {m : Nat} {ps : Array Tmp} {as bd : Code} {d : Nat} {f : Option Nat} {z1 z2 : Nat}
    (hl : s.heap.get l = some ⟨.loop st pend fn tmps m ps as bd d, f, z1, z2⟩) (hs : Can.setObj s l (.loop st' pend' fn tmps m ps as bd d) = some s') :
    ∃ r t2 q, ρ l = some r ∧ w.heap[r.blk]? = some (.loop { state := st, pending := pend, fn := fn, tmps := t2, params := ps, assign := as, body := bd, defers := q }) ∧
      HR ρ s' { w with heap := w.heap.setIfInBounds r.blk (.loop { state := st', pending := pend', fn := fn, tmps := t2, params := ps, assign := as, body := bd, defers := q }) } ∧
      Ev ρ w ρ { w with heap := w.heap.setIfInBounds r.blk (.loop { state := st', pending := pend', fn := fn, tmps := t2, params := ps, assign := as, body := bd, defers := q }) } := by
  obtain ⟨k, r, hk, hr, hor, hfin⟩ := setObj_ok h hs
  rw [hl] at hk; cases hk
  simp only [OR] at hor
  obtain ⟨t2, q, hq, hw, ht⟩ := hor
  obtain ⟨h1, h2⟩ := hfin (.loop { state := st', pending := pend', fn := fn, tmps := t2, params := ps, assign := as, body := bd, defers := q.blk }) fun s1 => by
    simp only [OR]
    refine ⟨t2, q, hq, ?_, ht⟩
    have := h.top _ _ hr
    simp [this]
  exact ⟨r, t2, q.blk, hr, hw, h1, h2⟩

theorem run_getLoop {l : Nat} {r : Loop} (h : w.heap[l]? = some (.loop r)) : (Instr.getLoop l).run P w = .ok r w := by
  simp only [Instr.getLoop, Sem.run_bind, run_getObj_of (P := P) h (by simp), Result.andThen_ok, Sem.run_pure]

theorem setLoop_inv {l : Nat} {f t : LoopState} {p : Option Code} (h : setLoop s l f t p = some s') : ∃ st' fn tmps m ps as bd d z z1 z2, s.heap.get l = some ⟨.loop f st' fn tmps m ps as bd d, z, z1, z2⟩ ∧ Can.setObj s l (.loop t p fn tmps m ps as bd d) = some s' := by
  unfold setLoop at h
  split at h
  · rename_i st pe fn tmps m ps as bd d z z1 z2 hl
    split at h
    · rename_i hd
      have := of_decide_eq_true hd
      subst this
      exact ⟨_, _, _, _, _, _, _, _, _, _, _, hl, h⟩
    · cases h
  · cases h

theorem good_round {n : Nat} (hc : GoodCode P E n) : GoodRound P E (n + 1) := by
  intro l f t m as bd v s s' hg ρ w r t2 h hr ht c cs
  simp only [go] at hg
  split at hg
  · rename_i a1 s1 h1
    split at hg
    · rename_i p z3 z4 z5 z6 z7 z8 z9 za zb zc hl1
      split at hg
      · cases hg
      · rename_i s2 h2
        obtain ⟨st', fn, tmps, m', ps, as', bd', d, y1, y2, y3, hl2, hset2⟩ := setLoop_inv h2
        rw [hl1] at hl2; cases hl2
        let b : Frame := { (default : Frame) with fn := f, kind := .normal, roundOf := some r.blk }
        have hb0 : Frame.round r.blk f t2 as bd .normal = b.atR { tmps := t2, defers := [] } [.code as, .beginRound, .code bd] := by
          simp [Frame.round, Frame.atR, b]
        obtain ⟨ρ1, a1', w1, g1, g2, g3, g4⟩ := hc _ _ _ _ _ _ _ _ h1 ρ w { tmps := t2, defers := [] } b h ⟨ht, .nil⟩ (.some hr) rfl rfl [.beginRound, .code bd] (c :: cs) _ rfl
        rw [← hb0] at g4
        obtain ⟨r1, t3, q, hr1, hw1, k1, k2⟩ := loop_set g1 hl1 hset2
        rw [g2.le _ _ hr] at hr1; cases hr1
        have hbegin : (Instr.beginRound r.blk).run P w1 = .ok () { w1 with heap := w1.heap.setIfInBounds r.blk (.loop { state := .busy, pending := p, fn := z3, tmps := t3, params := z6, assign := z7, body := z8, defers := q }) } := by
          simp only [Instr.beginRound, Sem.run_bind, run_getLoop hw1, Result.andThen_ok, run_setObj_of (P := P) hw1 (by simp), Sem.run_pure]
        split at hg
        · rename_i e a3 s3 h3
          obtain ⟨ρ2, a3', w2, j1, j2, j3, j4⟩ := hc _ _ _ _ _ _ _ _ h3 ρ1 _ a1' b k1 g3 (.some (g2.le _ _ hr)) rfl rfl [] (c :: cs) _ rfl
          have hev := (g2.trans k2).trans j2
          have hstart : Steps P (lone (Frame.round r.blk f t2 as bd .normal) (c :: cs) w) (lone (b.atR a1' [.code bd]) (c :: cs) { w1 with heap := w1.heap.setIfInBounds r.blk (.loop { state := .busy, pending := p, fn := z3, tmps := t3, params := z6, assign := z7, body := z8, defers := q }) }) :=
            Steps.trans g4 (.one (stepR_beginRound rfl hbegin))
          have fin : ∀ (to_ : LoopState) (jump : Option Code) (s4 : St), setLoop s3 l .busy to_ jump = some s4 → to_ = (if jump.isNone then .ready else .done) →
              ∃ w4, (Instr.endRound r.blk jump).run P w2 = .ok (.bool jump.isNone) w4 ∧ HR ρ2 s4 w4 ∧ Ev ρ2 w2 ρ2 w4 := by
            intro to_ jump s4 h4 hto
            obtain ⟨st', fn, tmps, m', ps, as', bd', d, y1, y2, y3, hl4, hset4⟩ := setLoop_inv h4
            obtain ⟨r4, t4, q4, hr4, hw4, k3, k4⟩ := loop_set j1 hl4 hset4
            rw [hev.le _ _ hr] at hr4; cases hr4
            refine ⟨_, ?_, k3, k4⟩
            simp only [Instr.endRound, Sem.run_bind, run_getLoop hw4, Result.andThen_ok, run_setObj_of (P := P) hw4 (by simp), Sem.run_pure, hto]
          split at hg
          · split at hg
            · cases hg
            · rename_i s4 h4
              cases hg
              obtain ⟨w4, e1, e2, e3⟩ := fin _ none _ h4 rfl
              exact ⟨ρ2, .bool true, w4, e2, hev.trans e3, .bool _, (hstart.trans j4).trans (.one (stepR_round_end rfl rfl e1))⟩
          · split at hg
            · cases hg
            · rename_i s4 h4
              cases hg
              obtain ⟨w4, e1, e2, e3⟩ := fin _ (some .ret) _ h4 rfl
              obtain ⟨kk, m1, hs1, hs2⟩ := j4
              exact ⟨ρ2, .bool false, w4, e2, hev.trans e3, .bool _, (hstart.trans hs1).trans (.one (hs2.trans (stepR_round_ret rfl rfl e1)))⟩
          · split at hg
            · cases hg
            · rename_i id _ s4 h4
              cases hg
              obtain ⟨w4, e1, e2, e3⟩ := fin _ (some (.exit id)) _ h4 rfl
              obtain ⟨kk, m1, hs1, hs2, hx⟩ := j4
              exact ⟨ρ2, .bool false, w4, e2, hev.trans e3, .bool _, (hstart.trans hs1).trans (.one (hs2.trans (stepR_round_exit rfl rfl hx e1)))⟩
        · cases hg
    · cases hg
  · cases hg

/-! ### a function's end -/
theorem close_marks {f : Nat} {u : FrameMode} (hu : u ≠ .run) : ∀ (l : List Nat) (ds : List Deferred) (s s' : St) (w : World) (fr : Frame) (cs : List Frame), fr.mode = u → fr.fn = f → fr.kind = .normal → fr.defers = ds → F2 (Mark ρ) l ds → HR ρ s w → closeMarks s l = some s' →
    ∃ w' fr', HR ρ s' w' ∧ Ev ρ w ρ w' ∧ Steps P (lone fr cs w) (lone fr' cs w') ∧ fr'.mode = u ∧ fr'.fn = f ∧ fr'.kind = .normal ∧ fr'.defers = [] ∧ fr'.tmps = fr.tmps := by
  intro l
  induction l with
  | nil =>
    intro ds s s' w fr cs hm hf hk hd hF h hc
    cases hF
    simp [closeMarks] at hc; subst hc
    exact ⟨w, fr, h, Ev.refl ρ w, Steps.refl .., hm, hf, hk, hd, rfl⟩
  | cons m l ih =>
    intro ds s s' w fr cs hm hf hk hd hF h hc
    cases hF with
    | cons hmk hF =>
      rename_i d ds
      obtain ⟨r, hr, rfl⟩ := hmk
      simp only [closeMarks] at hc
      split at hc
      · rename_i z z1 z2 hl
        split at hc
        · cases hc
        · rename_i s1 hs1
          obtain ⟨k, r', hk', hr', hor, hfin⟩ := setObj_ok h hs1
          rw [hl] at hk'; cases hk'
          rw [hr] at hr'; cases hr'
          simp only [OR, if_true] at hor
          obtain ⟨h1, e1⟩ := hfin (.deferred none) fun s1 => by
            simp only [OR]
            have := h.top _ _ hr
            simp [this]
          have htake : (Instr.takeDeferred r.blk).run P w = .ok [] { w with heap := w.heap.setIfInBounds r.blk (.deferred none) } := by
            simp only [Instr.takeDeferred, Sem.run_bind, run_getObj_of (P := P) hor (by simp), Result.andThen_ok, run_setObj_of (P := P) hor (by simp), Sem.run_pure]
          have hstep := step_collected (P := P) (cs := cs) (hm ▸ hu) hd rfl htake
          obtain ⟨w', fr', g1, g2, g3, g4⟩ := ih ds s1 s' _ { fr with defers := [] ++ ds } cs hm hf hk rfl hF h1 hc
          exact ⟨w', fr', g1, e1.trans g2, .head hstep g3, g4⟩
      · cases hc

theorem resultsV_ok (hE : EnvOK P E) (h : HR ρ s w) {a : A} {tmps : Array Value} (ht : TR ρ a.tmps a.n tmps) : ∀ (l : List ResultVar) (vs : List Value), resultsV E s a l = some vs →
    ∃ us, VL ρ vs us ∧ (l.mapM (fun
      | .tmp t => pure (tmps.getD t undef)
      | .cell a t => do Go.loadVar t (← asAddr (tmps.getD a undef)) : ResultVar → Sem Value)).run P w = .ok us w
  | [], vs, hv => by simp [resultsV] at hv; subst hv; exact ⟨[], .nil, rfl⟩
  | r :: l, vs, hv => by
    simp only [resultsV] at hv
    split at hv
    · cases hv
    · rename_i v hv1
      split at hv
      · cases hv
      · rename_i vs' hvs
        cases hv
        obtain ⟨us, hus, hrun⟩ := resultsV_ok hE h ht l vs' hvs
        have hone : ∃ u, VR ρ v u ∧ ((fun
            | .tmp t => pure (tmps.getD t undef)
            | .cell a t => do Go.loadVar t (← asAddr (tmps.getD a undef)) : ResultVar → Sem Value) r).run P w = .ok u w := by
          cases r with
          | tmp t => cases hv1; exact ⟨_, ht.2.2 t, rfl⟩
          | cell x t =>
            obtain ⟨ad, u, ha, hl, hvr⟩ := loadVar_ok (P := P) hE h (ht.2.2 x) hv1
            refine ⟨u, hvr, ?_⟩
            simp only [ha, asAddr, Sem.run_bind, Sem.run_pure, Result.andThen_ok, hl]
        obtain ⟨u, hu, hr⟩ := hone
        refine ⟨u :: us, .cons hu hus, ?_⟩
        rw [List.mapM_cons]
        simp only [Sem.run_bind, hr, Result.andThen_ok, hrun, Sem.run_pure]

theorem startTmps_ok : ∀ (l : List Value) (m : List Value) (i : Nat) (t t' : T Value) (tmps : Array Value), VL ρ l m → startTmps l i t = some t' → (∀ j, VR ρ ((t.get j).getD undef) ((if j < i then tmps.getD j undef else undef))) → i + l.length < 65536 → tmps.size = i → ∀ j, VR ρ ((t'.get j).getD undef) ((tmps.toList ++ m).getD j undef)
  | [], m, i, t, t', tmps, hv, hs, ht, _, hz => by
    cases hv
    simp [startTmps] at hs; subst hs
    intro j
    have := ht j
    split at this
    · simpa using this
    · rename_i hj
      have hnone : tmps[j]? = none := Array.getElem?_eq_none (by omega)
      simp only [List.append_nil, List.getD_eq_getElem?_getD, Array.getElem?_toList, hnone]
      exact this
  | v :: l, m, i, t, t', tmps, hv, hs, ht, hi, hz => by
    cases hv with
    | cons hvu hl =>
      rename_i u m
      simp only [startTmps, T.put_eq] at hs
      have := startTmps_ok l m (i + 1) _ t' (tmps.push u) hl hs (fun j => ?_) (by simp at hi; omega) (by simp [hz])
      · intro j; have := this j; simpa using this
      · by_cases hj : i = j
        · subst hj
          rw [T.get_upd_same _ _ (by simp at hi; omega), if_pos (Nat.lt_succ_self _)]
          have e : (tmps.push u).getD i undef = u := by simp [← hz]
          rw [e]; exact hvu
        · rw [T.get_upd_ne _ _ hj]
          have h1 := ht j
          by_cases hlt : j < i
          · rw [if_pos hlt] at h1
            rw [if_pos (by omega)]
            have e : (tmps.push u).getD j undef = tmps.getD j undef := by
              have : j < tmps.size := by omega
              simp [Array.getElem?_push, this, Nat.ne_of_lt this]
            rw [e]; exact h1
          · rw [if_neg hlt] at h1
            rw [if_neg (by omega)]
            exact h1

theorem good_call (hE : EnvOK P E) {n : Nat} (hc : GoodCode P E n) : GoodCall P E (n + 1) := by
  intro f args v s s' hg ρ w args2 h ha cs
  simp only [go] at hg
  split at hg
  · cases hg
  · rename_i fn hfn
    have hf := (hE.fn f fn hfn).1
    split at hg
    · cases hg
    · rename_i c hb
      split at hg
      · cases hg
      · rename_i t ht
        split at hg
        · cases hg
        · rename_i hsz
          simp only [Bool.and_eq_true, ble_true, blt_true] at hsz
          have hlen := ha.length
          simp only [Array.length_toList] at hlen
          have hst := startTmps_ok args args2.toList 0 .nil t #[] ha ht (fun j => by rw [T.get_nil]; simpa using VR.undef) (by omega) rfl
          have hT : TR ρ t fn.ntmps (args2 ++ Array.replicate (fn.ntmps - args2.size) undef) := by
            refine ⟨by simp; omega, hsz.2, fun j => ?_⟩
            have h1 := hst j
            simp only [List.nil_append] at h1
            by_cases hj : j < args2.size
            · have e : (args2 ++ Array.replicate (fn.ntmps - args2.size) undef).getD j undef = args2.toList.getD j undef := by
                simp [Array.getElem?_append, hj]
              rw [e]; exact h1
            · have e : (args2 ++ Array.replicate (fn.ntmps - args2.size) undef).getD j undef = undef := by
                simp only [Array.getD_eq_getD_getElem?, Array.getElem?_append, if_neg hj, Array.getElem?_replicate]
                split <;> simp
              have e2 : args2.toList.getD j undef = undef := by
                have : args2[j]? = none := Array.getElem?_eq_none (by omega)
                simp [this]
              rw [e]; rw [e2] at h1; exact h1
          let b : Frame := { (default : Frame) with fn := f, kind := .normal, roundOf := none }
          have henter : Frame.enter P f args2 .normal = b.atR { tmps := args2 ++ Array.replicate (fn.ntmps - args2.size) undef, defers := [] } [.code c] := by
            simp [Frame.enter, Frame.atR, hf, hb, b]
          split at hg
          · cases hg
          · rename_i e a1 s1 hne h1
            obtain ⟨ρ1, a2', w1, g1, g2, g3, g4⟩ := hc _ _ _ _ _ _ _ _ h1 ρ w { tmps := args2 ++ Array.replicate (fn.ntmps - args2.size) undef, defers := [] } b h ⟨hT, .nil⟩ .none rfl rfl [] cs _ rfl
            rw [← henter] at g4
            have hret : ∃ todo, Steps P (lone (Frame.enter P f args2 .normal) cs w) (lone { b.atR a2' todo with mode := .returning } cs w1) := by
              cases e with
              | normal => exact ⟨[], Steps.trans g4 (.one (stepR_end rfl))⟩
              | ret => obtain ⟨k1, m1, hs1, hs2⟩ := g4; exact ⟨_, hs1.trans (.one (hs2.trans (stepR_ret rfl)))⟩
              | exit id => exact (hne id rfl).elim
            obtain ⟨todo, hret⟩ := hret
            split at hg
            · cases hg
            · rename_i s2 h2
              obtain ⟨w2, fr', k1, k2, k3, k4, k5, k6, k7, k8⟩ := close_marks (P := P) (f := f) (u := .returning) (by simp) a1.marks a2'.defers s1 s2 w1 { b.atR a2' todo with mode := .returning } cs rfl rfl rfl rfl g3.marks g1 h2
              have hres : ∀ vs, resultsV E s2 a1 fn.results.toList = some vs → ∃ us, VL ρ1 vs us ∧ (results fn fr'.tmps).run P w2 = .ok (if h : us.toArray.size = 1 then us.toArray[0] else .tuple us.toArray) w2 := by
                intro vs hvs
                obtain ⟨us, hus, hrun⟩ := resultsV_ok (P := P) hE k1 g3.tmps _ _ hvs
                refine ⟨us, hus, ?_⟩
                rw [k8]
                unfold results
                rw [Array.mapM_eq_mapM_toList, ← bind_pure_comp]
                simp only [Sem.run_bind, Sem.run_pure]
                exact congrArg (fun r : Result (List Value) => (r.andThen fun a w' => Result.ok a.toArray w').andThen fun a w' => Result.ok (if h : a.size = 1 then a[0] else Value.tuple a) w') hrun
              split at hg
              · cases hg
              · rename_i v0 hvs
                cases hg
                obtain ⟨us, hus, hrun⟩ := hres _ hvs
                cases hus with
                | cons hu hnil =>
                  cases hnil
                  rename_i u
                  exact ⟨ρ1, u, w2, fr', k1, g2.trans k2, hu, hret.trans k3, k5, k4, k7, k6, fn, by rw [k5]; exact hf, by simpa using hrun⟩
              · rename_i vs hvs hone
                cases hg
                obtain ⟨us, hus, hrun⟩ := hres _ hone
                have hlen := hus.length
                have hn1 : us.toArray.size ≠ 1 := by
                  intro h1
                  simp at h1
                  rw [h1] at hlen
                  obtain ⟨x, hx⟩ := List.length_eq_one_iff.1 hlen
                  exact hvs x hx
                rw [dif_neg hn1] at hrun
                exact ⟨ρ1, .tuple us.toArray, w2, fr', k1, g2.trans k2, VR.tuple' (by simpa using hus), hret.trans k3, k5, k4, k7, k6, fn, by rw [k5]; exact hf, hrun⟩
          · cases hg

end Go.Can

/-
  THE CANONICAL INTERPRETER'S SOUNDNESS: every piece of code; the theorem.
-/
namespace Go.Can
variable {P : Program} {E : Env} {ρ : Ren} {s s' : St} {w : World} {nx : Nx}

theorem HR.drawn (h : HR ρ s w) : HR ρ s { w with drawn := w.drawn + 1 } := h.drew

theorem range_func (hE : EnvOK P E) {n : Nat} (hcall : GoodCall P E n) {ro : Option Nat} {fn : Nat} {f : Operand} {params : Array Tmp} {assign body : Code} {a a' : A} {e : Ex}
    (hg : go E (n + 1) (.code ro fn (.rangeFunc f params assign body) a) s = some (.ex e a', s')) {a2 : Act} {b : Frame} (h : HR ρ s w) (ha : AR ρ a a2) (hro : RO ρ ro b.roundOf) (hbf : b.fn = fn)
    (k : List Item) (cs : List Frame) (m0 : Machine) (hm0 : step P m0 = step P (lone (b.atR a2 (.code (.rangeFunc f params assign body) :: k)) cs w)) :
    ∃ ρ' a2' w', HR ρ' s' w' ∧ Ev ρ w ρ' w' ∧ AR ρ' a' a2' ∧ Arr P m0 b k cs a2' w' e := by
  simp only [go] at hg
  have hv : VR ρ (a.ev f) (a2.eval f) := ev_ok fun t _ => ha.tmps.2.2 t
  split at hg
  · rename_i g first cap hef
    rw [hef] at hv
    obtain ⟨g2, y, d2, he2, hg2, hy, hd2⟩ := hv.func_inv
    cases hg2
    -- the block for the deferred calls
    have hblock : ∀ d marks s1, (match ro with
          | some l => (match s.heap.get l with | some ⟨.loop _ _ _ _ _ _ _ _ d, _, _, _⟩ => some (d, a.marks, s) | _ => none)
          | none => (match new s (.defr true) with | some (r, s) => some (r, r :: a.marks, s) | none => none)) = some (d, marks, s1) →
        ∃ ρ1 w1 q mark, HR ρ1 s1 w1 ∧ Ev ρ w ρ1 w1 ∧ ρ1 d = some q ∧ F2 (Mark ρ1) marks (mark ++ a2.defers) ∧
          ∀ (lp : Loop), lp.defers = q.blk → (∀ x, (Instr.enterLoop x lp.tmps lp.params lp.assign lp.body b.roundOf).run P w = .ok (w1.heap.size, mark) (World.pushed w1 (.loop { state := .ready, pending := none, fn := x, tmps := lp.tmps, params := lp.params, assign := lp.assign, body := lp.body, defers := q.blk }))) := by
      intro d marks s1 hb
      cases hro' : b.roundOf with
      | none =>
        rw [hro'] at hro
        cases hro
        simp only at hb
        split at hb
        · rename_i r s2 hn
          cases hb
          obtain ⟨h1, h2, h3⟩ := new_ok h hn (.deferred (some [])) 0 fun s1 => by
            simp only [OR, if_true]
            exact pushed_new ..
          refine ⟨_, _, _, [{ target := .collected w.heap.size, args := #[] }], h2, h3, by rw [h1]; exact Ren.ext_same .., .cons ⟨_, by rw [h1]; exact Ren.ext_same .., rfl⟩ (ha.marks.mono fun _ _ => Mark.mono h3.le), fun lp hlp x => ?_⟩
          simp only [Instr.enterLoop, Sem.run_bind, run_newObj, Result.andThen_ok, Sem.run_pure]
          rfl
        · cases hb
      | some l2 =>
        rw [hro'] at hro
        cases hro with
        | @some l r hr =>
          simp only at hb
          split at hb
          · rename_i st pe fn' t' n' ps as bd d' z1 z2 z3 hl
            cases hb
            obtain ⟨r', hr', _, _, _, hor⟩ := h.live l _ hl
            rw [hr] at hr'; cases hr'
            simp only [OR] at hor
            obtain ⟨t2, q, hq, hw, _⟩ := hor
            refine ⟨ρ, w, q, [], h, Ev.refl ρ w, hq, by simpa using ha.marks, fun lp hlp x => ?_⟩
            simp only [Instr.enterLoop, Sem.run_bind, run_getLoop hw, run_newObj, Result.andThen_ok, Sem.run_pure]
            rfl
          · cases hb
    split at hg
    · cases hg
    · rename_i d marks s1 hb
      obtain ⟨ρ1, w1, q, mark, h1, e1, hq, hmk, henter⟩ := hblock d marks s1 hb
      split at hg
      · cases hg
      · rename_i l s2 hn
        obtain ⟨g1, g2, g3⟩ := new_ok h1 hn (.loop { state := .ready, pending := none, fn := fn, tmps := a2.tmps, params := params, assign := assign, body := body, defers := q.blk }) 0 fun s3 => by
          simp only [OR]
          exact ⟨a2.tmps, q, (h1.ext_le _) _ _ hq, pushed_new .., (ha.tmps.mono e1.le).mono (h1.ext_le _)⟩
        have hle := henter { state := .ready, pending := none, fn := fn, tmps := a2.tmps, params := params, assign := assign, body := body, defers := q.blk } rfl b.fn
        rw [hbf] at hle
        split at hg
        · cases hg
        · rename_i fg hfg
          split at hg
          · rename_i v s3 hcl
            have hVL : VL (ρ1.ext s1.next ⟨w1.heap.size, 0, none, 0, 0, 0, 0⟩) (first.toList ++ [.func (.yield l) #[] #[]] ++ cap.toList) ((y ++ #[Value.func (.yield w1.heap.size) #[] #[]]) ++ d2).toList := by
              have hyl : VR (ρ1.ext s1.next ⟨w1.heap.size, 0, none, 0, 0, 0, 0⟩) (.func (.yield l) #[] #[]) (.func (.yield w1.heap.size) #[] #[]) := by
                have : FnR (ρ1.ext s1.next ⟨w1.heap.size, 0, none, 0, 0, 0, 0⟩) (.yield l) (.yield w1.heap.size) := .yield (r := ⟨w1.heap.size, 0, none, 0, 0, 0, 0⟩) (by rw [g1]; exact Ren.ext_same ..)
                exact .func this rfl (fun i u v hu _ => by simp at hu) rfl (fun i u v hu _ => by simp at hu)
              have hyy := VL.mono g3.le (VL.mono e1.le hy)
              have hdd := VL.mono g3.le (VL.mono e1.le hd2)
              simpa using (hyy.append (.cons hyl .nil)).append hdd
            obtain ⟨ρ3, u, w3, fr, k1, k2, k3, k4, k5, k6⟩ := hcall _ _ _ _ _ hcl _ _ ((y ++ #[Value.func (.yield w1.heap.size) #[] #[]]) ++ d2) g2 hVL (b.atR { a2 with defers := mark ++ a2.defers } (.inRangeFunc w1.heap.size :: k) :: cs)
            have hinv := (hE.fn _ _ hfg).2 ((y ++ #[Value.func (.yield w1.heap.size) #[] #[]]) ++ d2) (World.pushed w1 (.loop { state := .ready, pending := none, fn := fn, tmps := a2.tmps, params := params, assign := assign, body := body, defers := q.blk }))
            have hres : (resolve a2.eval (rangeCall f w1.heap.size) 0).run P (World.pushed w1 (.loop { state := .ready, pending := none, fn := fn, tmps := a2.tmps, params := params, assign := assign, body := body, defers := q.blk })) =
                .ok { target := .fn (.func g) d2, args := y ++ #[Value.func (.yield w1.heap.size) #[] #[]] } (World.pushed w1 (.loop { state := .ready, pending := none, fn := fn, tmps := a2.tmps, params := params, assign := assign, body := body, defers := q.blk })) := by
              simp only [resolve, he2, Deferred.ofValue]
              simp [Act.eval]
            have hstep := stepR_rangeFunc (P := P) (b := b) (a := a2) (k := k) (cs := cs) (w := w) (by rw [hbf]; exact hle) hres hinv
            have hback := step_leave_returned (c := b.atR { a2 with defers := mark ++ a2.defers } (.inRangeFunc w1.heap.size :: k)) (cs := cs) k6
            rw [finish_atR_inRangeFunc] at hback
            have hto : Steps P m0 (lone (b.atR { a2 with defers := mark ++ a2.defers } (.endRangeFunc w1.heap.size :: k)) cs w3) :=
              .head (hm0.trans hstep) (k4.trans (.one hback))
            split at hg
            · rename_i st pending fn' t' n' ps' as' bd' d' z1 z2 z3 hl3
              split at hg
              · cases hg
              · rename_i hbusy
                split at hg
                · cases hg
                · rename_i s4 hs4
                  obtain ⟨r, t2, q2, hr, hw3, j1, j2⟩ := loop_set k1 hl3 hs4
                  have hr2 : ρ3 l = some ⟨w1.heap.size, 0, none, 0, 0, 0, 0⟩ := k2.le _ _ (by rw [g1]; exact Ren.ext_same ..)
                  rw [hr2] at hr; cases hr
                  have hst : (st == LoopState.busy) = false := by
                    have := of_decide_eq_false hbusy
                    cases st <;> first | rfl | exact absurd rfl this
                  have hend : (Instr.endLoop w1.heap.size).run P w3 = .ok pending { w3 with heap := w3.heap.setIfInBounds w1.heap.size (.loop { state := .exhausted, pending := pending, fn := fn', tmps := t2, params := ps', assign := as', body := bd', defers := q2 }) } := by
                    simp only [Instr.endLoop, Sem.run_bind, run_getLoop hw3, Result.andThen_ok, hst, Bool.false_eq_true, if_false, Sem.run_pure, run_setObj_of (P := P) hw3 (by simp)]
                  have hsteps := hto.trans (.one (stepR_endRangeFunc (b := b) (a := { a2 with defers := mark ++ a2.defers }) (k := k) (cs := cs) hend))
                  have hev := ((e1.trans g3).trans k2).trans j2
                  have hAR : AR ρ3 ⟨a.tmps, a.n, marks⟩ { a2 with defers := mark ++ a2.defers } := ⟨ha.tmps.mono hev.le, (hmk.mono fun _ _ => Mark.mono g3.le).mono fun _ _ => Mark.mono k2.le⟩
                  split at hg
                  · cases hg
                    exact ⟨ρ3, _, _, j1, hev, hAR, hsteps⟩
                  · cases hg
                    exact ⟨ρ3, _, _, j1, hev, hAR, k, _, hsteps, rfl, rfl⟩
                  · cases hg
                    exact ⟨ρ3, _, _, j1, hev, hAR, k, _, hsteps, rfl⟩
                  · cases hg
            · cases hg
          · cases hg
  · cases hg

theorem good_code (hE : EnvOK P E) {n : Nat} (hc : GoodCode P E n) (hcall : GoodCall P E n) (hnx : ∀ m < n, GoodNx P E m) : GoodCode P E (n + 1) := by
  intro ro fn c a s e a' s' hg ρ w a2 b h ha hro hbf hbk k cs m0 hm0
  cases c with
  | skip => simp only [go] at hg; cases hg; exact ⟨ρ, a2, w, h, Ev.refl ρ w, ha, .one (hm0.trans stepR_skip)⟩
  | label l => simp only [go] at hg; cases hg; exact ⟨ρ, a2, w, h, Ev.refl ρ w, ha, .one (hm0.trans stepR_label)⟩
  | ret => simp only [go] at hg; cases hg; exact ⟨ρ, a2, w, h, Ev.refl ρ w, ha, k, m0, Steps.refl .., hm0⟩
  | exit id => simp only [go] at hg; cases hg; exact ⟨ρ, a2, w, h, Ev.refl ρ w, ha, k, m0, Steps.refl .., hm0, rfl⟩
  | goto l => simp only [go] at hg; cases hg
  | refuse y => simp only [go] at hg; cases hg
  | scope bd =>
    simp only [go] at hg
    obtain ⟨ρ', a2', w', h1, h2, h3, h4⟩ := hc _ _ _ _ _ _ _ _ hg ρ w a2 b h ha hro hbf hbk (.inScope bd :: k) cs _ rfl
    refine ⟨ρ', a2', w', h1, h2, h3, Arr.of_steps (.one (hm0.trans stepR_scope)) ?_⟩
    cases e with
    | normal => exact Steps.trans h4 (.one stepR_inScope)
    | ret => exact h4
    | exit id => obtain ⟨k1, m1, q1, q2, q3⟩ := h4; exact ⟨k1, m1, q1, q2, q3.trans rfl⟩
  | seq x y =>
    simp only [go] at hg
    split at hg
    · rename_i a1 s1 h1
      obtain ⟨ρ1, a21, w1, g1, g2, g3, g4⟩ := hc _ _ _ _ _ _ _ _ h1 ρ w a2 b h ha hro hbf hbk (.code y :: k) cs _ rfl
      obtain ⟨ρ2, a22, w2, j1, j2, j3, j4⟩ := hc _ _ _ _ _ _ _ _ hg ρ1 w1 a21 b g1 g3 (hro.mono g2.le) hbf hbk k cs _ rfl
      exact ⟨ρ2, a22, w2, j1, g2.trans j2, j3, Arr.of_steps (.head (hm0.trans stepR_seq) g4) j4⟩
    · rename_i hne
      obtain ⟨ρ1, a21, w1, g1, g2, g3, g4⟩ := hc _ _ _ _ _ _ _ _ hg ρ w a2 b h ha hro hbf hbk (.code y :: k) cs _ rfl
      refine ⟨ρ1, a21, w1, g1, g2, g3, Arr.of_steps (.one (hm0.trans stepR_seq)) ?_⟩
      cases e with
      | normal => exact (hne _ _ hg).elim
      | ret => exact g4
      | exit id => obtain ⟨k1, m1, q1, q2, q3⟩ := g4; exact ⟨k1, m1, q1, q2, q3.trans rfl⟩
  | cond c x y =>
    simp only [go] at hg
    have hv : VR ρ (a.ev c) (a2.eval c) := ev_ok fun t _ => ha.tmps.2.2 t
    split at hg
    · rename_i hcv
      rw [hcv] at hv
      obtain ⟨ρ1, a21, w1, g1, g2, g3, g4⟩ := hc _ _ _ _ _ _ _ _ hg ρ w a2 b h ha hro hbf hbk k cs _ rfl
      exact ⟨ρ1, a21, w1, g1, g2, g3, Arr.of_steps (.one (hm0.trans (stepR_cond hv.bool_inv))) g4⟩
    · rename_i hcv
      rw [hcv] at hv
      obtain ⟨ρ1, a21, w1, g1, g2, g3, g4⟩ := hc _ _ _ _ _ _ _ _ hg ρ w a2 b h ha hro hbf hbk k cs _ rfl
      exact ⟨ρ1, a21, w1, g1, g2, g3, Arr.of_steps (.one (hm0.trans (stepR_cond hv.bool_inv))) g4⟩
    · cases hg
  | block id bd =>
    simp only [go] at hg
    split at hg
    · rename_i i a1 s1 h1
      obtain ⟨ρ1, a21, w1, g1, g2, g3, k1, m1, q1, q2, q3⟩ := hc _ _ _ _ _ _ _ _ h1 ρ w a2 b h ha hro hbf hbk (.inBlock id :: k) cs _ rfl
      split at hg
      · rename_i hid
        cases hg
        have hid := beq_true.1 hid
        subst hid
        have : exitTo i k1 = some k := by rw [q3]; simp [exitTo]
        exact ⟨ρ1, a21, w1, g1, g2, g3, Steps.head (hm0.trans stepR_block) (q1.trans (.one (q2.trans (stepR_exit this))))⟩
      · rename_i hid
        cases hg
        have hid := beq_false.1 hid
        have : exitTo i k1 = exitTo i k := by rw [q3]; simp [exitTo, Ne.symm hid]
        exact ⟨ρ1, a21, w1, g1, g2, g3, k1, m1, .head (hm0.trans stepR_block) q1, q2, this⟩
    · rename_i hne
      obtain ⟨ρ1, a21, w1, g1, g2, g3, g4⟩ := hc _ _ _ _ _ _ _ _ hg ρ w a2 b h ha hro hbf hbk (.inBlock id :: k) cs _ rfl
      refine ⟨ρ1, a21, w1, g1, g2, g3, Arr.of_steps (.one (hm0.trans stepR_block)) ?_⟩
      cases e with
      | normal => exact Steps.trans g4 (.one stepR_inBlock)
      | ret => exact g4
      | exit i => exact (hne _ _ _ hg).elim
  | loop bd =>
    simp only [go] at hg
    split at hg
    · rename_i a1 s1 h1
      obtain ⟨ρ1, a21, w1, g1, g2, g3, g4⟩ := hc _ _ _ _ _ _ _ _ h1 ρ w a2 b h ha hro hbf hbk (.inLoop bd :: k) cs _ rfl
      obtain ⟨ρ2, a22, w2, j1, j2, j3, j4⟩ := hc _ _ _ _ _ _ _ _ hg ρ1 w1 a21 b g1 g3 (hro.mono g2.le) hbf hbk k cs (lone (b.atR a21 (.inLoop bd :: k)) cs w1) (stepR_inLoop.trans stepR_loop.symm)
      exact ⟨ρ2, a22, w2, j1, g2.trans j2, j3, Arr.of_steps (.head (hm0.trans stepR_loop) g4) j4⟩
    · rename_i hne
      obtain ⟨ρ1, a21, w1, g1, g2, g3, g4⟩ := hc _ _ _ _ _ _ _ _ hg ρ w a2 b h ha hro hbf hbk (.inLoop bd :: k) cs _ rfl
      refine ⟨ρ1, a21, w1, g1, g2, g3, Arr.of_steps (.one (hm0.trans stepR_loop)) ?_⟩
      cases e with
      | normal => exact (hne _ _ hg).elim
      | ret => exact g4
      | exit id => obtain ⟨k1, m1, q1, q2, q3⟩ := g4; exact ⟨k1, m1, q1, q2, q3.trans rfl⟩
  | region id ops draw =>
    simp only [go] at hg
    split at hg
    · rename_i a1 acc s1 h1
      obtain ⟨a1', sn, hacc, hrun⟩ := go_ops _ _ _ _ _ _ _ h1
      cases draw with
      | false =>
        cases hacc
        cases hg
        obtain ⟨ρ1, a21, w1, g1, g2, g3, g4⟩ := ops_steps hE hnx hrun (List.range ops.size) (F2_range ops) ρ w a2 h ha b k cs
        exact ⟨ρ1, a21, w1, g1, g2, g3, Steps.head (hm0.trans stepR_region) g4⟩
      | true =>
        simp only [List.append_nil] at hacc
        cases hacc
        simp only [List.reverse_reverse] at hg
        split at hg
        · rename_i hok
          cases hg
          have hsch : Region.schedule (P.follows .mixedOrders) ops (w.tape w.drawn (.order b.fn id)) = Region.linearise .any ops (w.tape w.drawn (.order b.fn id)) := by
            simp [Region.schedule, hE.mixed]
          obtain ⟨ρ1, a21, w1, g1, g2, g3, g4⟩ := draw_steps hE hnx hrun hok (w.tape w.drawn (.order b.fn id)) h.drawn ha b k cs
          refine ⟨ρ1, a21, w1, g1, (Ev.drew ρ w).trans g2, g3, Steps.head (hm0.trans stepR_region_draw) ?_⟩
          rw [hsch]
          exact g4
        · cases hg
    · cases hg
  | rangeFunc f ps as bd => exact range_func hE hcall hg h ha hro hbf k cs m0 hm0

/-- **THE THEOREM**: every run of the interpreter is a run of the machine. -/
theorem good (hE : EnvOK P E) : ∀ n : Nat, GoodCode P E n ∧ GoodCall P E n ∧ GoodRound P E n ∧ GoodNx P E n := by
  intro n
  induction n using Nat.strongRecOn with
  | _ n ih =>
    cases n with
    | zero => exact ⟨fun _ _ _ _ _ _ _ _ h => by simp [go] at h, fun _ _ _ _ _ h => by simp [go] at h, fun _ _ _ _ _ _ _ _ _ h => by simp [go] at h, fun _ _ _ _ h => by simp [go] at h⟩
    | succ n =>
      have h := ih n (Nat.lt_succ_self n)
      exact ⟨good_code hE h.1 h.2.1 fun m hm => (ih m (Nat.lt_succ_of_lt hm)).2.2.2, good_call hE h.1, good_round h.1, good_nx h.2.1 h.2.2.1⟩

def St0 : St := ⟨.nil, 0, .nil, 0⟩
def Ren0 : Ren := fun _ => none
theorem HR0 (w : World) : HR Ren0 St0 w := ⟨fun _ _ h => (by cases h), fun _ _ h => (by cases h), fun _ _ _ h => (by cases h), fun _ _ _ _ h => (by cases h), fun b k h => by simp [St0, T.get_nil] at h⟩

/-- what the interpreter says of a call that is handed nothing but plain values -/
theorem calls_of (hE : EnvOK P E) {n f : Nat} {args : List Value} {v : Value} {s' : St} (hg : go E n (.call f args) St0 = some (.val v, s')) (hv : ∀ x ∈ args, closed 4 x = true) (w : World) :
    Calls P f args.toArray w fun
      | .returned u, w' => (∃ ρ, VR ρ v u) ∧ w'.os = w.os ∧ w'.tape = w.tape ∧ w'.output = w.output ∧ w.heap.size ≤ w'.heap.size ∧ ∀ k, k < w.heap.size → w'.heap[k]? = w.heap[k]?
      | _, _ => False := by
  intro cs
  obtain ⟨ρ', u, w', fr, h1, h2, h3, h4, h5, h6⟩ := (good hE n).2.1 f args v St0 s' hg Ren0 w args.toArray (HR0 w) (F2.refl _ fun x hx => closed_VR 4 x (hv x hx)) cs
  exact ⟨.returned u, w', fr, ⟨⟨ρ', h3⟩, h2.os, h2.tape, h2.output, h2.size, fun k hk => h2.keep k hk fun b r h => by cases h⟩, h4, h5, h6⟩

end Go.Can

/-
  THE CANONICAL INTERPRETER: how a program's tables are shown to be right.
-/
namespace Go.Can
open Go.RowKit (Below)

/-! ### what holds of all that a map holds -/
def T.AllP {α : Type} (Q : Nat → α → Prop) : T α → Nat → Nat → Prop
  | .nil, _, _ => True
  | .node l v r, m, a => (match v with | none => True | some x => Q (m + a - 1) x) ∧ T.AllP Q l (2 * m) a ∧ T.AllP Q r (2 * m) (a + m)
theorem T.AllP.getF {α : Type} {Q : Nat → α → Prop} : ∀ (n : Nat) (t : T α) (m a p : Nat) (x : α), T.AllP Q t m a → 0 < p → T.getF n t p = some x → Q (m * p + a - 1) x
  | 0, _, _, _, _, _, _, _, h => by simp [T.getF] at h
  | n + 1, .nil, _, _, p, _, _, _, h => by rw [T.getF_nil] at h; cases h
  | n + 1, .node l v r, m, a, p, x, hA, hp, h => by
    rw [T.getF_node] at h
    obtain ⟨h1, h2, h3⟩ := hA
    split at h
    · rename_i hp1
      subst hp1; subst h
      simpa using h1
    · rename_i hp1
      split at h
      · rename_i h0
        have := T.AllP.getF n l (2 * m) a (p / 2) x h2 (by omega) h
        have e : 2 * m * (p / 2) = m * p := by
          have : 2 * (p / 2) = p := by omega
          rw [Nat.mul_comm 2 m, Nat.mul_assoc, this]
        rwa [e] at this
      · rename_i h0
        have := T.AllP.getF n r (2 * m) (a + m) (p / 2) x h3 (by omega) h
        have e : 2 * m * (p / 2) + (a + m) - 1 = m * p + a - 1 := by
          have h4 : 2 * (p / 2) + 1 = p := by omega
          have : m * (2 * (p / 2) + 1) = m * p := by rw [h4]
          rw [Nat.mul_add, Nat.mul_one, ← Nat.mul_assoc, Nat.mul_comm m 2] at this
          omega
        rwa [e] at this
theorem T.AllP.get {α : Type} {Q : Nat → α → Prop} {t : T α} (h : T.AllP Q t 1 0) {i : Nat} {x : α} (hi : t.get i = some x) : Q i x := by
  have := T.AllP.getF 24 t 1 0 (i + 1) x h (by omega) hi
  simpa using this

/-! ### a type -/
structure TyOK (P : Program) (t : Nat) (x : TI) : Prop where
  u : ∀ w, (underlying t).run P w = .ok x.u w
  size : ∀ w, (sizeOf t).run P w = .ok x.size w
  zero : ∀ w, (zeroValue t).run P w = .ok x.zero w
  closed : closed 4 x.zero = true
  info : ∃ i, (∀ w, (typeInfo t).run P w = .ok i w) ∧ i.bytes = x.bytes
  cells : x.zero.cells.size = x.size
  plain : x.plain = true → P.eqGuardType P.depth t = false ∧ (∀ w e (a : Array Value), fits x.zero.cells.toList a.toList = true → (Instr.checkKey e 10000 t (.agg a)).run P w = .ok () w) ∧ ∀ w (a b : Array Value) r, fits x.zero.cells.toList a.toList = true → fits x.zero.cells.toList b.toList = true → eqV 3 (.agg a) (.agg b) = some r → (Op.equal t (.agg a) (.agg b)).run P w = .ok r w
structure FnOK (P : Program) (f : Nat) (x : Func) : Prop where
  fn : P.funcs[f]? = some x
  call : ∀ args w, (callFunc f args).run P w = .ok (.enter f args) w
theorem env_ok {P : Program} {ti : T TI} {fn : T Func} (ht : T.AllP (TyOK P) ti 1 0) (hf : T.AllP (FnOK P) fn 1 0) (hm : P.follows .mixedOrders = true) : EnvOK P ⟨ti.get, fn.get, fun _ _ => none⟩ where
  ti := fun _ _ h => let k := ht.get h; ⟨k.u, k.size, k.zero, k.closed, k.info, k.cells, k.plain⟩
  fn := fun _ _ h => let k := hf.get h; ⟨k.fn, k.call⟩
  mixed := hm

/-! ### a struct of numbers, bools and strings -/
def Scalar (P : Program) (t : Nat) (z : Value) : Prop :=
  (P.underlying t = some .bool ∧ ∃ b, z = .bool b) ∨ (∃ k, P.underlying t = some (.int k) ∧ ∃ n, z = .int k n) ∨ (P.underlying t = some .string ∧ ∃ s, z = .string s)
def FlatFields (P : Program) : List Field → List Value → Nat → Prop
  | [], [], _ => True
  | f :: fs, z :: zs, i => f.offset = i ∧ f.name ≠ "_" ∧ Scalar P f.type z ∧ FlatFields P fs zs (i + 1)
  | _, _, _ => False
section
variable {P : Program}
theorem Scalar.part {t : Nat} {z : Value} (h : Scalar P t z) {cs : Array Value} {i : Nat} {v : Value} (hv : cs[i]? = some v) (w : World) : (part t cs i).run P w = .ok v w := by
  rcases h with ⟨h, _⟩ | ⟨k, h, _⟩ | ⟨h, _⟩ <;> simp [Go.part, isAgg, run_underlying h, hv]
theorem Scalar.eql {t : Nat} {z x y : Value} (h : Scalar P t z) (hx : fit1 z x = true) (hy : fit1 z y = true) (d n : Nat) (w : World) : ∃ r, eqV (n + 1) x y = some r ∧ (Op.equalIn (d + 1) t x y).run P w = .ok r w := by
  rcases h with ⟨h, b, rfl⟩ | ⟨k, h, m, rfl⟩ | ⟨h, c, rfl⟩
  · cases x <;> simp [fit1] at hx
    cases y <;> simp [fit1] at hy
    exact ⟨_, rfl, by simp [Op.equalIn, run_underlying h]⟩
  · cases x <;> simp [fit1] at hx
    cases y <;> simp [fit1] at hy
    subst hx; subst hy
    rename_i p q
    exact ⟨p == q, by simp [eqV], by simp [Op.equalIn, run_underlying h]⟩
  · cases x <;> simp [fit1] at hx
    cases y <;> simp [fit1] at hy
    exact ⟨_, rfl, by simp [Op.equalIn, run_underlying h]⟩
theorem Scalar.key {t : Nat} {z x : Value} (h : Scalar P t z) (hx : fit1 z x = true) (n : Nat) (e : Bool) (w : World) : (Instr.checkKey e (n + 1) t x).run P w = .ok () w := by
  rcases h with ⟨h, b, rfl⟩ | ⟨k, h, m, rfl⟩ | ⟨h, c, rfl⟩ <;> cases x <;> simp [fit1] at hx <;> simp [Instr.checkKey, run_underlying h]

theorem flat_eq (d n : Nat) (w : World) : ∀ (fs : List Field) (zs la lb pa pb : List Value) (r : Bool), FlatFields P fs zs pa.length → pa.length = pb.length → fits zs la = true → fits zs lb = true → eqV.eqL (n + 1) la lb = some r →
    (Op.eqFields (d + 1) (pa ++ la).toArray (pb ++ lb).toArray fs).run P w = .ok r w
  | [], [], la, lb, pa, pb, r, _, _, ha, hb, h => by
    cases la with
    | cons _ _ => simp [fits] at ha
    | nil => cases lb with
      | cons _ _ => simp [fits] at hb
      | nil => simp [eqV.eqL] at h; subst h; simp [Op.eqFields]
  | [], z :: zs, _, _, _, _, _, hf, _, _, _, _ => hf.elim
  | f :: fs, [], _, _, _, _, _, hf, _, _, _, _ => hf.elim
  | f :: fs, z :: zs, la, lb, pa, pb, r, ⟨ho, hn, hs, hf⟩, hl, ha, hb, h => by
    cases la with
    | nil => simp [fits] at ha
    | cons x la => cases lb with
      | nil => simp [fits] at hb
      | cons y lb =>
        simp only [fits] at ha hb
        split at ha
        · rename_i hx
          split at hb
          · rename_i hy
            obtain ⟨q, hq, hrun⟩ := hs.eql hx hy d n w
            simp only [eqV.eqL, hq] at h
            have e1 : (pa ++ x :: la).toArray[f.offset]? = some x := by simp [ho]
            have e2 : (pb ++ y :: lb).toArray[f.offset]? = some y := by simp [ho, hl]
            simp only [Op.eqFields, if_pos hn, Sem.run_bind, hs.part e1 w, hs.part e2 w, hrun, Result.andThen_ok]
            cases q with
            | false => simp at h; subst h; simp
            | true =>
              simp only at h
              have := flat_eq d n w fs zs la lb (pa ++ [x]) (pb ++ [y]) r (by simpa using hf) (by simp [hl]) ha hb h
              simpa using this
          · cases hb
        · cases ha
theorem flat_key {t : Nat} {fs : Array Field} {zs : List Value} (hu : P.underlying t = some (.struct fs)) (m : Nat) (e : Bool) (w : World) (hk : ∀ (t : Nat) (z x : Value), Scalar P t z → fit1 z x = true → (Instr.checkKey e m t x).run P w = .ok () w) (a : Array Value) (hf : FlatFields P fs.toList zs 0) (ha : fits zs a.toList = true) :
    (Instr.checkKey e (m + 1) t (.agg a)).run P w = .ok () w := by
  simp only [Instr.checkKey, Sem.run_bind, run_underlying hu, Result.andThen_ok]
  rw [← Array.forIn_toList]
  have key : ∃ pa la : List Value, a = (pa ++ la).toArray ∧ FlatFields P fs.toList zs pa.length ∧ fits zs la = true := ⟨[], a.toList, by simp, hf, ha⟩
  obtain ⟨pa, la, h1, h2, h3⟩ := key
  clear ha hf hu
  generalize fs.toList = l at h2 ⊢
  induction l generalizing zs la pa with
  | nil => simp
  | cons f l ih =>
    cases zs with
    | nil => exact h2.elim
    | cons z zs =>
      obtain ⟨ho, hn, hs, hf⟩ := h2
      cases la with
      | nil => simp [fits] at h3
      | cons x la =>
        simp only [fits] at h3
        split at h3
        · rename_i hx
          have e1 : a[f.offset]? = some x := by simp [h1, ho]
          have e2 := hk _ _ _ hs hx
          simp only [List.forIn_cons, if_pos hn, Sem.run_bind, hs.part e1 w, e2, Result.andThen_ok, Sem.run_pure]
          exact ih (zs := zs) (pa ++ [x]) la (by simp [h1]) h3 (by simpa using hf)
        · cases h3

theorem plain_struct {t : Nat} {x : TI} {fs : Array Field} (hu : P.underlying t = some (.struct fs)) (hp : P.stoodInHeld t = false) (hg : P.eqGuardType P.depth t = false) (hf : FlatFields P fs.toList x.zero.cells.toList 0) :
    P.eqGuardType P.depth t = false ∧ (∀ w e (a : Array Value), fits x.zero.cells.toList a.toList = true → (Instr.checkKey e 10000 t (.agg a)).run P w = .ok () w) ∧ ∀ w (a b : Array Value) r, fits x.zero.cells.toList a.toList = true → fits x.zero.cells.toList b.toList = true → eqV 3 (.agg a) (.agg b) = some r → (Op.equal t (.agg a) (.agg b)).run P w = .ok r w := by
  have hfo : P.fieldsOf t = fs := by simp [Program.fieldsOf, hu]
  refine ⟨hg, fun w e a ha => ?_, fun w a b r ha hb h => ?_⟩
  · exact flat_key hu 9999 e w (fun t z x h hx => h.key hx 9998 e w) a hf ha
  · have := flat_eq (P := P) 9998 1 w fs.toList _ a.toList b.toList [] [] r hf rfl ha hb h
    show (Op.equalIn (9999 + 1) t (.agg a) (.agg b)).run P w = _
    rw [run_equalIn_struct (P := P) w 9999 t a b (by rw [hfo]; exact hu) hp, hfo]
    simpa using this
end

/-! ### a call that returns true -/
def isTrue : Option (Rs × St) → Bool
  | some (.val (.bool b), _) => b
  | _ => false
theorem calls_true {P : Program} {E : Env} (hE : EnvOK P E) {n f : Nat} (h : isTrue (go E n (.call f []) St0) = true) (w : World) : Calls P f #[] w fun e w' => e = .returned (.bool true) ∧ Below w.heap.size w w' := by
  generalize hg : go E n (.call f []) St0 = r at h
  unfold isTrue at h
  split at h
  · rename_i b s
    subst h
    refine Calls.mono (calls_of hE hg (fun x hx => (by cases hx)) w) fun e w' he => ?_
    cases e with
    | returned u =>
      obtain ⟨⟨ρ, hv⟩, h1, h2, h3, h4, h5⟩ := he
      rw [hv.bool_inv]
      exact ⟨rfl, h1, h2, h3, h4, h5⟩
    | panicked c => exact he.elim
    | outgrown => exact he.elim
  · cases h

end Go.Can
