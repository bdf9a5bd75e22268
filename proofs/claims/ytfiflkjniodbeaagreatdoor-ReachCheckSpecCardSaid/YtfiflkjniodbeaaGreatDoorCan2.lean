/- blocks, places, appends are kept. -/
import Derived.Test.YtfiflkjniodbeaaGreatDoorCan1
import GoSem.Dispatch
import Derived.Laws.Append
/-
  THE CANONICAL INTERPRETER'S SOUNDNESS, fourth part: rows of cells, variables, new blocks, objects.
-/
namespace Go.Can

theorem add_eq (b o n : Nat) : (⟨b, o, none⟩ : Addr).add n = ⟨b, o + n, none⟩ := by
  unfold Addr.add
  split
  · rename_i h; subst h; rfl
  · rfl

theorem loadN_length : ∀ {s : St} {b n o : Nat} {l : List Value}, loadN s b o n = some l → l.length = n
  | s, b, 0, o, l, h => by simp [loadN] at h; subst h; rfl
  | s, b, n + 1, o, l, h => by
    simp only [loadN] at h
    split at h
    · cases h
    · split at h
      · cases h
      · rename_i l' hl
        cases h
        simp [loadN_length hl]
theorem cell?_heap {w w' : World} (h : w'.heap = w.heap) (a : Addr) : w'.cell? a = w.cell? a := by unfold World.cell?; rw [h]
theorem loadN_ok {P : Program} {ρ s w b r} (h : HR ρ s w) (hr : ρ b = some r) : ∀ (n o i : Nat) (l : List Value), loadN s b (o + i) n = some l →
    ∃ m, VL ρ l m ∧ ∀ (acc : Array Value) (w' : World), w'.heap = w.heap → (loadCellsFrom ⟨r.blk, r.sh + o, none⟩ i n acc).run P w' = .ok (acc ++ m.toArray) w'
  | 0, o, i, l, hl => by
    simp [loadN] at hl; subst hl
    exact ⟨[], .nil, by simp [loadCellsFrom]⟩
  | n + 1, o, i, l, hl => by
    simp only [loadN] at hl
    split at hl
    · cases hl
    · rename_i v hv
      split at hl
      · cases hl
      · rename_i l' hl'
        cases hl
        obtain ⟨u, hu, hvu⟩ := cell_ok h hr hv
        obtain ⟨m, hm, hrun⟩ := loadN_ok (P := P) h hr n o (i + 1) l' (by simpa [Nat.add_assoc] using hl')
        refine ⟨u :: m, .cons hvu hm, fun acc w' hw => ?_⟩
        simp only [loadCellsFrom, Sem.run_bind, run_load, add_eq, Nat.add_assoc, cell?_heap hw, hu, Result.andThen_ok]
        rw [hrun _ _ hw]
        simp
theorem loadCells_heap {P : Program} {ρ s w b r n o l} (h : HR ρ s w) (hr : ρ b = some r) (hl : loadN s b o n = some l) :
    ∃ m, VL ρ l m ∧ ∀ w' : World, w'.heap = w.heap → (loadCells ⟨r.blk, r.sh + o, none⟩ n).run P w' = .ok m.toArray w' := by
  obtain ⟨m, hm, hrun⟩ := loadN_ok (P := P) h hr n o 0 l hl
  exact ⟨m, hm, fun w' hw => by simpa [loadCells] using hrun #[] w' hw⟩
theorem loadCells_ok {P : Program} {ρ s w b r n o l} (h : HR ρ s w) (hr : ρ b = some r) (hl : loadN s b o n = some l) :
    ∃ m, VL ρ l m ∧ (loadCells ⟨r.blk, r.sh + o, none⟩ n).run P w = .ok m.toArray w := by
  obtain ⟨m, hm, hrun⟩ := loadCells_heap (P := P) h hr hl
  exact ⟨m, hm, hrun w rfl⟩

theorem storeN_ok {P : Program} {ρ b r} (hr : ρ b = some r) : ∀ (l m : List Value) (s s' : St) (w : World) (o i : Nat), HR ρ s w → VL ρ l m → storeN s b (o + i) l = some s' →
    ∃ w', (storeCells ⟨r.blk, r.sh + o, none⟩ m i).run P w = .ok () w' ∧ HR ρ s' w' ∧ Ev ρ w ρ w' := by
  intro l
  induction l with
  | nil =>
    intro m s s' w o i h hm hs
    cases hm
    simp [storeN] at hs; subst hs
    exact ⟨w, by simp [storeCells], h, Ev.refl ρ w⟩
  | cons v l ih =>
    intro m s s' w o i h hm hs
    cases hm with
    | cons hv hm =>
      rename_i u m
      simp only [storeN] at hs
      split at hs
      · cases hs
      · rename_i s1 h1
        obtain ⟨g1, ⟨x, g2⟩, g3, g4, g5⟩ := setCell_ok h hr h1 hv
        obtain ⟨w', k1, k2, k3⟩ := ih m s1 s' _ o (i + 1) g4 hm (by simpa [Nat.add_assoc] using hs)
        refine ⟨w', ?_, k2, g5.trans k3⟩
        simp only [storeCells, Sem.run_bind, run_store _ _ _ _ _ g1, add_eq, Nat.add_assoc, g2]
        simp only [g3, Bool.false_eq_true, if_false, Result.andThen_ok]
        exact k1

/-! ### what the environment knows is so -/
structure EnvOK (P : Program) (E : Env) : Prop where
  ti : ∀ t x, E.ti t = some x → (∀ w, (underlying t).run P w = .ok x.u w) ∧ (∀ w, (sizeOf t).run P w = .ok x.size w) ∧ (∀ w, (zeroValue t).run P w = .ok x.zero w) ∧ closed 4 x.zero = true ∧
    (∃ i, (∀ w, (typeInfo t).run P w = .ok i w) ∧ i.bytes = x.bytes) ∧ x.zero.cells.size = x.size ∧ (x.plain = true → P.eqGuardType P.depth t = false ∧ (∀ w e (a : Array Value), fits x.zero.cells.toList a.toList = true → (Instr.checkKey e 10000 t (.agg a)).run P w = .ok () w) ∧ ∀ w (a b : Array Value) r, fits x.zero.cells.toList a.toList = true → fits x.zero.cells.toList b.toList = true → eqV 3 (.agg a) (.agg b) = some r → (Op.equal t (.agg a) (.agg b)).run P w = .ok r w)
  fn : ∀ f x, E.fn f = some x → P.funcs[f]? = some x ∧ ∀ args w, (callFunc f args).run P w = .ok (.enter f args) w
  mixed : P.follows .mixedOrders = true

theorem isAgg_ok {P E t x} (hE : EnvOK P E) (ht : E.ti t = some x) (w : World) : (isAgg t).run P w = .ok (isAggD x.u) w := by
  have := (hE.ti t x ht).1 w
  unfold isAgg isAggD
  simp only [Sem.run_bind, this, Result.andThen_ok]
  cases x.u <;> rfl

theorem loadVar_ok {P E ρ s w t a v a2} (hE : EnvOK P E) (h : HR ρ s w) (ha : VR ρ a a2) (hl : Can.loadVar E s t a = some v) :
    ∃ ad u, a2 = .pointer (some ad) ∧ (Go.loadVar t ad).run P w = .ok u w ∧ VR ρ v u := by
  unfold Can.loadVar at hl
  split at hl
  · rename_i b o
    obtain ⟨r, hr, rfl⟩ := ha.ptr_inv
    split at hl
    · cases hl
    · rename_i ti ht
      refine ⟨⟨r.blk, r.sh + o, none⟩, ?_⟩
      have hagg := isAgg_ok hE ht w
      split at hl
      · rename_i hag
        split at hl
        · cases hl
        · rename_i l hl'
          cases hl
          obtain ⟨m, hm, hrun⟩ := loadCells_ok (P := P) h hr hl'
          refine ⟨.agg m.toArray, rfl, ?_, VR.agg' (by simpa using hm)⟩
          simp [Go.loadVar, hagg, hag, (hE.ti t ti ht).2.1 w, hrun]
      · rename_i hag
        obtain ⟨u, hu, hvu⟩ := cell_ok h hr hl
        refine ⟨u, rfl, ?_, hvu⟩
        simp [Go.loadVar, hagg, hag, hu]
  · cases hl

theorem VR.cells {ρ v w} (h : VR ρ v w) (hd : data v = true) : VL ρ v.cells.toList w.cells.toList := by
  cases h with
  | junk w => simp [data] at hd
  | agg a b => exact vl_of_arr a b
  | ptr e => exact .cons (.ptr e) .nil
  | slice e => exact .cons (.slice e) .nil
  | tail e f a b => exact .cons (.tail e f a b) .nil
  | empty e f => exact .cons (.empty e f) .nil
  | map e => exact .cons (.map e) .nil
  | func k a b c d => exact .cons (.func k a b c d) .nil
  | iface k => exact .cons (.iface k) .nil
  | tuple a b => exact .cons (.tuple a b) .nil
  | bool b => exact .cons (.bool b) .nil
  | int k n => exact .cons (.int k n) .nil
  | string s => exact .cons (.string s) .nil
  | nilp => exact .cons .nilp .nil
  | nils l c => exact .cons (.nils l c) .nil
  | nilm => exact .cons .nilm .nil
  | nilf => exact .cons .nilf .nil
  | nili => exact .cons .nili .nil

theorem storeVar_ok {P E ρ s s' w t a v a2 u} (hE : EnvOK P E) (h : HR ρ s w) (ha : VR ρ a a2) (hv : VR ρ v u) (hl : Can.storeVar E s t a v = some s') :
    ∃ ad w', a2 = .pointer (some ad) ∧ (Go.storeVar t ad u).run P w = .ok () w' ∧ HR ρ s' w' ∧ Ev ρ w ρ w' := by
  unfold Can.storeVar at hl
  split at hl
  · rename_i b o
    obtain ⟨r, hr, rfl⟩ := ha.ptr_inv
    split at hl
    · cases hl
    · rename_i ti ht
      split at hl
      · rename_i hsz
        have hd : data v = true ∨ v = .chan (some 0) := by
          cases v <;> simp [data] <;> (cases hv; simp)
        rcases hd with hd | rfl
        · have hc := hv.cells hd
          obtain ⟨w', k1, k2, k3⟩ := storeN_ok (P := P) hr v.cells.toList u.cells.toList s s' w o 0 h hc hl
          refine ⟨_, w', rfl, ?_, k2, k3⟩
          have hlen := hc.length
          simp at hlen
          have hsz' : v.cells.size = ti.size := beq_true.1 hsz
          simp only [Go.storeVar, Sem.run_bind, (hE.ti t ti ht).2.1 w, Result.andThen_ok]
          rw [if_neg (by omega)]
          simpa using k1
        · simp [Value.cells, storeN, setCell, one] at hl
      · cases hl
  · cases hl

end Go.Can

/-
  THE CANONICAL INTERPRETER'S SOUNDNESS, fifth part: new blocks, objects, append.
-/
namespace Go.Can

def Ren.ext (ρ : Ren) (b : Nat) (r : RB) : Ren := fun x => if x = b then some r else ρ x
theorem Ren.ext_same (ρ : Ren) (b : Nat) (r : RB) : ρ.ext b r b = some r := by simp [Ren.ext]
theorem Ren.ext_ne (ρ : Ren) {b x : Nat} (r : RB) (h : x ≠ b) : ρ.ext b r x = ρ x := by simp [Ren.ext, h]
theorem HR.fresh {ρ s w} (h : HR ρ s w) : ρ s.next = none := by
  cases e : ρ s.next with
  | none => rfl
  | some r => exact absurd (h.dom _ _ e) (Nat.lt_irrefl _)
theorem HR.ext_le {ρ s w} (h : HR ρ s w) (r : RB) : ρ.le (ρ.ext s.next r) := fun x y e => by
  rw [Ren.ext_ne]
  · exact e
  · intro hx; subst hx; rw [h.fresh] at e; cases e

def World.pushed (w : World) (o : Obj) : World := { w with heap := w.heap.push o }
theorem pushed_old {w : World} {o : Obj} {k : Nat} (h : k < w.heap.size) : (World.pushed w o).heap[k]? = w.heap[k]? := by
  show (w.heap.push o)[k]? = _
  rw [Array.getElem?_push, if_neg (by omega)]
theorem pushed_new (w : World) (o : Obj) : (World.pushed w o).heap[w.heap.size]? = some o := by
  show (w.heap.push o)[w.heap.size]? = _
  simp

theorem new_some {s s' : St} {o : CO} {id : Nat} (h : new s o = some (id, s')) : id = s.next ∧ s' = ⟨s.heap.upd s.next ⟨o, none, 0, 0⟩, s.next + 1, s.fams, s.nfam⟩ := by
  unfold new at h
  rw [fN_eq, T.put_eq, fN_eq] at h
  cases h
  exact ⟨rfl, rfl⟩
theorem new_ok {ρ s s' w o id} (h : HR ρ s w) (hn : new s o = some (id, s')) (O2 : Obj) (e1 : Nat)
    (hO : ∀ s1, OR (ρ.ext s.next ⟨w.heap.size, 0, none, 0, 0, e1, e1⟩) s1 (World.pushed w O2) s.next ⟨o, none, 0, 0⟩ ⟨w.heap.size, 0, none, 0, 0, e1, e1⟩) :
    id = s.next ∧ HR (ρ.ext s.next ⟨w.heap.size, 0, none, 0, 0, e1, e1⟩) s' (World.pushed w O2) ∧ Ev ρ w (ρ.ext s.next ⟨w.heap.size, 0, none, 0, 0, e1, e1⟩) (World.pushed w O2) := by
  obtain ⟨rfl, rfl⟩ := new_some hn
  refine ⟨rfl, ⟨?_, ?_, ?_, ?_, ?_⟩, ⟨h.ext_le _, ?_, rfl, rfl, rfl, by simp [World.pushed], fun k hk _ => pushed_old hk⟩⟩
  · intro b r e
    by_cases hb : b = s.next
    · subst hb; simp
    · rw [Ren.ext_ne _ _ hb] at e; have := h.dom b r e; simp; omega
  · intro b r e
    by_cases hb : b = s.next
    · subst hb; rw [Ren.ext_same] at e; cases e; simp [World.pushed]
    · rw [Ren.ext_ne _ _ hb] at e; have := h.top b r e; simp [World.pushed]; omega
  · intro b r f e hf
    by_cases hb : b = s.next
    · subst hb; rw [Ren.ext_same] at e; cases e; cases hf
    · rw [Ren.ext_ne _ _ hb] at e; exact h.fam b r f e hf
  · intro b c r q e e' hq
    by_cases hb : b = s.next
    · by_cases hc : c = s.next
      · exact .inl (hb.trans hc.symm)
      · subst hb; rw [Ren.ext_same] at e; cases e
        rw [Ren.ext_ne _ _ hc] at e'
        have := h.top c q e'
        simp at hq; omega
    · by_cases hc : c = s.next
      · subst hc; rw [Ren.ext_same] at e'; cases e'
        rw [Ren.ext_ne _ _ hb] at e
        have := h.top b r e
        simp at hq; omega
      · rw [Ren.ext_ne _ _ hb] at e; rw [Ren.ext_ne _ _ hc] at e'
        exact h.inj b c r q e e' hq
  · intro b k hk
    simp only at hk
    by_cases hb : b = s.next
    · subst hb
      have := T.get_upd_some _ hk
      subst this
      exact ⟨_, Ren.ext_same .., rfl, rfl, rfl, hO _⟩
    · rw [T.get_upd_ne _ _ (Ne.symm hb)] at hk
      obtain ⟨r, hr, h1, h2, h3, h4⟩ := h.live b k hk
      exact ⟨r, (Ren.ext_ne _ _ hb).trans hr, h1, h2, h3, h4.mono (h.ext_le _) (fun i hi => hi) (pushed_old (h.top b r hr))⟩
  · intro b r e
    by_cases hb : b = s.next
    · subst hb; rw [Ren.ext_same] at e; cases e; exact .inl (Nat.le_refl _)
    · rw [Ren.ext_ne _ _ hb] at e; exact .inr ⟨b, r, e, rfl⟩

/-- a new row of cells -/
theorem newCells_ok {ρ s s' w id} {c m : List Value} {e e2 : TypeId} (h : HR ρ s w) (hn : new s (.cells c e) = some (id, s')) (hm : VL ρ c m) :
    ∃ r, r.blk = w.heap.size ∧ r.sh = 0 ∧ r.fam = none ∧ (ρ.ext s.next r) id = some r ∧ HR (ρ.ext s.next r) s' (World.pushed w (.cells m.toArray e2)) ∧ Ev ρ w (ρ.ext s.next r) (World.pushed w (.cells m.toArray e2)) := by
  have hO : ∀ s1, OR (ρ.ext s.next ⟨w.heap.size, 0, none, 0, 0, c.length, c.length⟩) s1 (World.pushed w (.cells m.toArray e2)) s.next ⟨.cells c e, none, 0, 0⟩ ⟨w.heap.size, 0, none, 0, 0, c.length, c.length⟩ := by
    intro s1
    simp only [OR]
    refine ⟨m.toArray, e2, (0, 0), pushed_new .., trivial, Nat.le_refl _, by simp [hm.length], fun _ => ⟨trivial, trivial⟩, fun o _ h => by simp at h, ?_⟩
    intro i v hv _
    obtain ⟨u, hu, hvu⟩ := hm.get i v hv
    exact ⟨u, by simpa using hu, hvu.mono (h.ext_le _)⟩
  obtain ⟨h1, h2, h3⟩ := new_ok h hn _ _ hO
  exact ⟨_, rfl, rfl, rfl, by rw [h1]; exact Ren.ext_same .., h2, h3⟩

theorem setObj_ok {ρ s s' w b o} (h : HR ρ s w) (hs : Can.setObj s b o = some s') : ∃ k r, s.heap.get b = some k ∧ ρ b = some r ∧ OR ρ s w b k r ∧
    ∀ O2, (∀ s1, OR ρ s1 { w with heap := w.heap.setIfInBounds r.blk O2 } b ⟨o, none, k.vsh, k.esz⟩ r) →
      HR ρ s' { w with heap := w.heap.setIfInBounds r.blk O2 } ∧ Ev ρ w ρ { w with heap := w.heap.setIfInBounds r.blk O2 } := by
  unfold Can.setObj at hs
  split at hs
  · cases hs
  · rename_i k hk
    split at hs
    · rename_i hf
      obtain ⟨r, hr, h1, h2, h3, h4⟩ := h.live b k hk
      have e := setBlk_some hs
      subst e
      refine ⟨k, r, hk, hr, h4, fun O2 hO => ?_⟩
      have hne : ∀ j, j ≠ r.blk → (w.heap.setIfInBounds r.blk O2)[j]? = w.heap[j]? := fun j hj => Array.getElem?_setIfInBounds_ne (Ne.symm hj)
      refine ⟨⟨h.dom, fun x y e => by simpa using h.top x y e, h.fam, h.inj, ?_⟩, ⟨.refl ρ, fun x y e => .inr ⟨x, y, e, rfl⟩, rfl, rfl, rfl, by simp, fun j _ hj => hne j fun hh => hj b r hr hh.symm⟩⟩
      intro b' k' hk'
      simp only at hk'
      by_cases hb : b' = b
      · subst hb
        have := T.get_upd_some _ hk'
        subst this
        exact ⟨r, hr, by rw [← h1, hf], h2, h3, hO _⟩
      · rw [T.get_upd_ne _ _ (Ne.symm hb)] at hk'
        obtain ⟨r', hr', g1, g2, g3, g4⟩ := h.live b' k' hk'
        refine ⟨r', hr', g1, g2, g3, g4.mono (.refl ρ) (fun i hi => hi) (hne _ fun hh => ?_)⟩
        rcases h.inj b' b r' r hr' hr hh with h0 | ⟨f, _, hf2, _⟩
        · exact hb h0
        · rw [← h1, hf] at hf2; cases hf2
    · cases hs

end Go.Can

/-
  THE CANONICAL INTERPRETER'S SOUNDNESS, sixth part: append.
-/
namespace Go.Can

/-- an append that has made a new block -/
theorem open_ok {ρ s sF w f v z lim elem} {all m rest : List Value} {e2 : TypeId} (h : HR ρ s w)
    (hheap : sF.heap = s.heap.upd s.next ⟨.cells all elem, some f, v, z⟩) (hnext : sF.next = s.next + 1) (hnf : s.nfam ≤ sF.nfam) (hf : f < sF.nfam) (hz : 0 < z)
    (_ : sF.fams = s.fams.upd f ⟨s.next, lim⟩)
    (hrd : ∀ b k i, s.heap.get b = some k → readable sF b k i = true → readable s b k i = true) (hm : VL ρ all m) :
    HR (ρ.ext s.next ⟨w.heap.size, 0, some f, v, z, all.length, (m ++ rest).length⟩) sF (World.pushed w (.cells (m ++ rest).toArray e2)) ∧
      Ev ρ w (ρ.ext s.next ⟨w.heap.size, 0, some f, v, z, all.length, (m ++ rest).length⟩) (World.pushed w (.cells (m ++ rest).toArray e2)) := by
  refine ⟨⟨?_, ?_, ?_, ?_, ?_⟩, ⟨h.ext_le _, ?_, rfl, rfl, rfl, by simp [World.pushed], fun k hk _ => pushed_old hk⟩⟩
  · intro b r e
    rw [hnext]
    by_cases hb : b = s.next
    · subst hb; omega
    · rw [Ren.ext_ne _ _ hb] at e; have := h.dom b r e; omega
  · intro b r e
    by_cases hb : b = s.next
    · subst hb; rw [Ren.ext_same] at e; cases e; simp [World.pushed]
    · rw [Ren.ext_ne _ _ hb] at e; have := h.top b r e; simp [World.pushed]; omega
  · intro b r f' e hf'
    by_cases hb : b = s.next
    · subst hb; rw [Ren.ext_same] at e; cases e; cases hf'; exact ⟨hf, hz, by simp [hm.length]⟩
    · rw [Ren.ext_ne _ _ hb] at e; obtain ⟨h1, h2⟩ := h.fam b r f' e hf'; exact ⟨by omega, h2⟩
  · intro b c r q e e' hq
    by_cases hb : b = s.next
    · by_cases hc : c = s.next
      · exact .inl (hb.trans hc.symm)
      · subst hb; rw [Ren.ext_same] at e; cases e
        rw [Ren.ext_ne _ _ hc] at e'
        have := h.top c q e'
        simp at hq; omega
    · by_cases hc : c = s.next
      · subst hc; rw [Ren.ext_same] at e'; cases e'
        rw [Ren.ext_ne _ _ hb] at e
        have := h.top b r e
        simp at hq; omega
      · rw [Ren.ext_ne _ _ hb] at e; rw [Ren.ext_ne _ _ hc] at e'
        exact h.inj b c r q e e' hq
  · intro b k hk
    rw [hheap] at hk
    by_cases hb : b = s.next
    · subst hb
      have := T.get_upd_some _ hk
      subst this
      refine ⟨_, Ren.ext_same .., rfl, rfl, rfl, ?_⟩
      simp only [OR]
      refine ⟨(m ++ rest).toArray, e2, (0, 0), pushed_new .., trivial, by simp [hm.length], by simp, fun hh => by simp at hh, fun o _ hh => by simp at hh, ?_⟩
      intro i x hx _
      obtain ⟨u, hu, hxu⟩ := hm.get i x hx
      refine ⟨u, ?_, hxu.mono (h.ext_le _)⟩
      have hi : i < m.length := (List.getElem?_eq_some_iff.1 hu).1
      rw [← hu]
      simp [List.getElem?_append_left hi]
    · rw [T.get_upd_ne _ _ (Ne.symm hb)] at hk
      obtain ⟨r, hr, h1, h2, h3, h4⟩ := h.live b k hk
      exact ⟨r, (Ren.ext_ne _ _ hb).trans hr, h1, h2, h3, h4.mono (h.ext_le _) (fun i hi => hrd b k i hk hi) (pushed_old (h.top b r hr))⟩
  · intro b r e
    by_cases hb : b = s.next
    · subst hb; rw [Ren.ext_same] at e; cases e; exact .inl (Nat.le_refl _)
    · rw [Ren.ext_ne _ _ hb] at e; exact .inr ⟨b, r, e, rfl⟩

/-- a row of cells is stored into a block (whatever the canonical state says) -/
theorem storeCells_run {P : Program} : ∀ (m : List Value) (w : World) (k o i : Nat) (c : Array Value) (e : TypeId) (fr : Nat × Nat), w.heap[k]? = some (.cells c e fr) → (∀ o, o < c.size → ¬ (fr.1 ≤ o ∧ o < fr.2)) →
    (∀ v ∈ m, v.oneCell' = true) → o + i + m.length ≤ c.size →
    ∃ c', (storeCells ⟨k, o, none⟩ m i).run P w = .ok () { w with heap := w.heap.setIfInBounds k (.cells c' e fr) } ∧ c'.size = c.size ∧ (∀ j, j < o + i → c'[j]? = c[j]?) ∧ (∀ j, j < m.length → c'[o + i + j]? = m[j]?) := by
  intro m
  induction m with
  | nil =>
    intro w k o i c e fr h _ _ _
    refine ⟨c, ?_, rfl, fun _ _ => rfl, fun j hj => by simp at hj⟩
    have : w.heap.setIfInBounds k (.cells c e fr) = w.heap := by
      apply Array.ext_getElem?
      intro j
      by_cases hj : k = j
      · subst hj; rw [h]; have := (Array.getElem?_eq_some_iff.1 h).1; simp [this]
      · simp [Array.getElem?_setIfInBounds_ne hj]
    simp [storeCells, this]
  | cons v m ih =>
    intro w k o i c e fr h hf hv hlen
    have hk : k < w.heap.size := (Array.getElem?_eq_some_iff.1 h).1
    simp only [List.length_cons] at hlen
    have hin : o + i < c.size := by omega
    have hs := heap_setCell_same (w := w) (k := k) (o := o + i) v h
    obtain ⟨c', g1, g2, g3, g4⟩ := ih (w.setCell ⟨k, o + i, none⟩ v) k o (i + 1) (c.setIfInBounds (o + i) v) e fr hs (by simpa using hf) (fun u hu => hv u (by simp [hu])) (by simp; omega)
    refine ⟨c', ?_, by simpa using g2, fun j hj => ?_, fun j hj => ?_⟩
    · have h1 : w.cell? ⟨k, o + i, none⟩ = some c[o + i] := cell?_of h (Array.getElem?_eq_getElem hin)
      have h2 : w.frozen? ⟨k, o + i, none⟩ = false := frozen?_of h (hf _ hin)
      simp only [storeCells, Sem.run_bind, run_store _ _ _ _ _ (hv v (by simp)), add_eq, h1, h2, Bool.false_eq_true, if_false, Result.andThen_ok]
      rw [g1]
      congr 2
      apply Array.ext_getElem?
      intro j
      by_cases hj : k = j
      · subst hj; simp [hk, World.setCell]
      · rw [Array.getElem?_setIfInBounds_ne hj, Array.getElem?_setIfInBounds_ne hj, heap_setCell_ne v (Ne.symm hj)]
    · rw [g3 j (by omega), Array.getElem?_setIfInBounds_ne (by omega)]
    · cases j with
      | zero => rw [g3 (o + i + 0) (by omega)]; simp [hin]
      | succ j => rw [show o + i + (j + 1) = o + (i + 1) + j by omega, g4 j (by simpa using hj)]; simp

/-- an append that has found room -/
theorem open_place_ok {ρ s sF w f z lim elem b k r o p} {all old new m : List Value} {c : List Value} {e : TypeId} {c2 c' : Array Value} {e2 fr} (h : HR ρ s w)
    (hb : s.heap.get b = some k) (_ : k.obj = .cells c e) (hr : ρ b = some r) (hkf : k.fam = some f) (fm : Fam) (hfm : s.fams.get f = some fm) (how : fm.owner = b)
    (hheap : sF.heap = s.heap.upd s.next ⟨.cells all elem, some f, k.vsh + o, z⟩) (hnext : sF.next = s.next + 1) (hnf : s.nfam = sF.nfam)
    (hz : 0 < z) (hfams : sF.fams = s.fams.upd f ⟨s.next, lim⟩) (hlim : lim = min fm.lim (k.vsh + o + p)) (hall : all = old ++ new)
    (hold : old.length = p) (hw : w.heap[r.blk]? = some (.cells c2 e2 fr)) (hsz : c2.size = r.sh + r.end2) (hfr : ∀ o, o < c2.size → ¬ (fr.1 ≤ o ∧ o < fr.2))
    (holdR : ∀ i v, old[i]? = some v → ∃ u, c2[r.sh + o + i]? = some u ∧ VR ρ v u) (hnewR : VL ρ new m)
    (hc1 : c'.size = c2.size) (hc2 : ∀ j, j < r.sh + o + p → c'[j]? = c2[j]?) (hc3 : ∀ j, j < m.length → c'[r.sh + o + p + j]? = m[j]?) (hroom : o + p + new.length ≤ r.end2) :
    HR (ρ.ext s.next ⟨r.blk, r.sh + o, some f, k.vsh + o, z, all.length, r.end2 - o⟩) sF { w with heap := w.heap.setIfInBounds r.blk (.cells c' e2 fr) } ∧
      Ev ρ w (ρ.ext s.next ⟨r.blk, r.sh + o, some f, k.vsh + o, z, all.length, r.end2 - o⟩) { w with heap := w.heap.setIfInBounds r.blk (.cells c' e2 fr) } := by
  obtain ⟨r0, hr0, q1, q2, q3, hor⟩ := h.live b k hb
  rw [hr] at hr0; cases hr0
  have hrk : r.blk < w.heap.size := h.top b r hr
  have hfn := (h.fam b r f hr (q1.symm.trans hkf)).1
  have hset : (w.heap.setIfInBounds r.blk (.cells c' e2 fr))[r.blk]? = some (.cells c' e2 fr) := by simp [hrk]
  have hne : ∀ j, j ≠ r.blk → (w.heap.setIfInBounds r.blk (Obj.cells c' e2 fr))[j]? = w.heap[j]? := fun j hj => Array.getElem?_setIfInBounds_ne (Ne.symm hj)
  refine ⟨⟨?_, ?_, ?_, ?_, ?_⟩, ⟨h.ext_le _, ?_, rfl, rfl, rfl, by simp, fun j _ hj => hne j fun hh => hj b r hr hh.symm⟩⟩
  · intro b' r' e'
    rw [hnext]
    by_cases hb' : b' = s.next
    · subst hb'; omega
    · rw [Ren.ext_ne _ _ hb'] at e'; have := h.dom b' r' e'; omega
  · intro b' r' e'
    by_cases hb' : b' = s.next
    · subst hb'; rw [Ren.ext_same] at e'; cases e'; simpa using hrk
    · rw [Ren.ext_ne _ _ hb'] at e'; simpa using h.top b' r' e'
  · intro b' r' f' e' hf'
    by_cases hb' : b' = s.next
    · subst hb'; rw [Ren.ext_same] at e'; cases e'; cases hf'; exact ⟨by omega, hz, by rw [hall]; simp; omega⟩
    · rw [Ren.ext_ne _ _ hb'] at e'; obtain ⟨h1, h2⟩ := h.fam b' r' f' e' hf'; exact ⟨by omega, h2⟩
  · intro x y rx ry ex ey hxy
    by_cases hx : x = s.next
    · by_cases hy : y = s.next
      · exact .inl (hx.trans hy.symm)
      · subst hx; rw [Ren.ext_same] at ex; cases ex
        rw [Ren.ext_ne _ _ hy] at ey
        simp only at hxy
        right
        rcases h.inj b y r ry hr ey hxy with h0 | ⟨g, g1, g2, g3⟩
        · subst h0; rw [hr] at ey; cases ey
          exact ⟨f, rfl, q1.symm.trans hkf, by simp only; rw [q2]; omega⟩
        · have : f = g := by have := q1.symm.trans hkf; rw [g1] at this; cases this; rfl
          subst this
          exact ⟨f, rfl, g2, by simp only; rw [q2]; omega⟩
    · by_cases hy : y = s.next
      · subst hy; rw [Ren.ext_same] at ey; cases ey
        rw [Ren.ext_ne _ _ hx] at ex
        simp only at hxy
        right
        rcases h.inj x b rx r ex hr hxy with h0 | ⟨g, g1, g2, g3⟩
        · subst h0; rw [hr] at ex; cases ex
          exact ⟨f, q1.symm.trans hkf, rfl, by simp only; rw [q2]; omega⟩
        · have : f = g := by have := q1.symm.trans hkf; rw [g2] at this; cases this; rfl
          subst this
          exact ⟨f, g1, rfl, by simp only; rw [q2]; omega⟩
      · rw [Ren.ext_ne _ _ hx] at ex; rw [Ren.ext_ne _ _ hy] at ey
        exact h.inj x y rx ry ex ey hxy
  · intro b' k' hk'
    rw [hheap] at hk'
    by_cases hb' : b' = s.next
    · subst hb'
      have := T.get_upd_some _ hk'
      subst this
      refine ⟨_, Ren.ext_same .., rfl, rfl, rfl, ?_⟩
      simp only [OR]
      have hnl := hnewR.length
      refine ⟨c', e2, fr, hset, trivial, by rw [hall]; simp; omega, by rw [hc1]; omega, fun hh => by simp at hh, by rw [hc1]; exact hfr, ?_⟩
      intro i x hx _
      rw [hall, List.getElem?_append] at hx
      split at hx
      · rename_i hi
        obtain ⟨u, hu, hxu⟩ := holdR i x hx
        exact ⟨u, by rw [hc2 _ (by omega)]; exact hu, hxu.mono (h.ext_le _)⟩
      · rename_i hi
        obtain ⟨u, hu, hxu⟩ := hnewR.get _ x hx
        have hl : i - old.length < m.length := (List.getElem?_eq_some_iff.1 hu).1
        refine ⟨u, ?_, hxu.mono (h.ext_le _)⟩
        rw [← hu, ← hc3 _ hl]
        congr 1
        omega
    · rw [T.get_upd_ne _ _ (Ne.symm hb')] at hk'
      obtain ⟨r', hr', g1, g2, g3, g4⟩ := h.live b' k' hk'
      refine ⟨r', (Ren.ext_ne _ _ hb').trans hr', g1, g2, g3, ?_⟩
      have hrd : ∀ i, readable sF b' k' i = true → readable s b' k' i = true ∧ (k'.fam = some f → k'.vsh + i < k.vsh + o + p) := by
        intro i hi
        unfold readable at hi ⊢
        rw [hfams] at hi
        cases hk'f : k'.fam with
        | none => exact ⟨rfl, fun hh => by cases hh⟩
        | some f' =>
          rw [hk'f] at hi
          simp only at hi ⊢
          by_cases hff : f = f'
          · subst hff
            cases hg : (s.fams.upd f ⟨s.next, lim⟩).get f with
            | none => rw [hg] at hi; cases hi
            | some y =>
              rw [hg] at hi
              have := T.get_upd_some _ hg
              subst this
              simp only [Bool.or_eq_true, beq_true, blt_true] at hi
              rcases hi with hi | hi
              · exact absurd hi.symm hb'
              · rw [hfm]
                simp only [Bool.or_eq_true, beq_true, blt_true]
                exact ⟨.inr (by omega), fun _ => by omega⟩
          · rw [T.get_upd_ne _ _ hff] at hi
            exact ⟨hi, fun hh => by cases hh; exact absurd rfl hff⟩
      by_cases hblk : r'.blk = r.blk
      · have hfr' : r'.fam = some f ∧ r.sh + r'.vsh = r'.sh + r.vsh := by
          rcases h.inj b' b r' r hr' hr hblk with h0 | ⟨g, i1, i2, i3⟩
          · subst h0; rw [hr] at hr'; cases hr'; exact ⟨q1.symm.trans hkf, rfl⟩
          · have : f = g := by have := q1.symm.trans hkf; rw [i2] at this; cases this; rfl
            subst this; exact ⟨i1, i3.symm⟩
        unfold OR at g4 ⊢
        rw [hblk] at g4 ⊢
        split at g4
        · obtain ⟨c3, e3, fr3, l1, l2, l3, l4, l5, l6, l7⟩ := g4
          rw [hw] at l1
          cases l1
          refine ⟨c', e2, fr, hset, l2, l3, hc1.trans l4, l5, by rw [hc1]; exact l6, ?_⟩
          intro i x hx hi
          obtain ⟨hi1, hi2⟩ := hrd i hi
          obtain ⟨y, hy, hxy⟩ := l7 i x hx hi1
          refine ⟨y, ?_, hxy.mono (h.ext_le _)⟩
          have := hi2 (g1.trans hfr'.1)
          rw [hc2 _ (by rw [g2] at this; rw [q2] at this; omega)]
          exact hy
        · obtain ⟨es2, l1, _⟩ := g4; rw [hw] at l1; cases l1
        · rw [hw] at g4; cases g4
        · obtain ⟨m2, l1, _⟩ := g4; rw [hw] at l1; cases l1
        · obtain ⟨t2, q, _, l1, _⟩ := g4; rw [hw] at l1; cases l1
        · rw [hw] at g4; cases g4
      · exact g4.mono (h.ext_le _) (fun i hi => (hrd i hi).1) (hne _ hblk)
  · intro b' r' e'
    by_cases hb' : b' = s.next
    · subst hb'; rw [Ren.ext_same] at e'; cases e'; exact .inr ⟨b, r, hr, rfl⟩
    · rw [Ren.ext_ne _ _ hb'] at e'; exact .inr ⟨b', r', e', rfl⟩

end Go.Can

/-
  THE CANONICAL INTERPRETER'S SOUNDNESS, seventh part: append, against the model's.
-/
namespace Go.Can

theorem strCells_eq (l : List UInt8) : strCells l = l.map fun b => Value.int .u8 b.toNat := by
  induction l with
  | nil => rfl
  | cons b l ih => simp [strCells, ih]

theorem appendX_ok {P : Program} {ρ s w z x x2 n new} (h : HR ρ s w) (hx : VR ρ x x2) (ha : appendX s z x = some (n, new)) :
    ∃ m, VL ρ new m ∧ new.length = n * z ∧ (∀ w', (Builtin.lenOf x2).run P w' = .ok n w') ∧ ∀ w' : World, w'.heap = w.heap → (Builtin.firstCells z n x2).run P w' = .ok m.toArray w' := by
  unfold appendX at ha
  split at ha
  · rename_i b o n' c
    obtain ⟨r, o2, c2, hr, rfl, hcase⟩ := hx.slice_inv
    split at ha
    · cases ha
    · rename_i l hl
      cases ha
      rcases hcase with ⟨rfl, rfl⟩ | ⟨rfl, _, _, _⟩ | ⟨rfl, rfl, rfl, _⟩
      · obtain ⟨m, hm, hrun⟩ := loadCells_heap (P := P) h hr hl
        exact ⟨m, hm, loadN_length hl, fun _ => rfl, by simpa [Builtin.firstCells] using hrun⟩
      · obtain ⟨m, hm, hrun⟩ := loadCells_heap (P := P) h hr hl
        exact ⟨m, hm, loadN_length hl, fun _ => rfl, by simpa [Builtin.firstCells] using hrun⟩
      · simp [loadN] at hl
        subst hl
        exact ⟨[], .nil, by simp, fun _ => rfl, by simp [Builtin.firstCells, loadCells, loadCellsFrom]⟩
  · rename_i n' c
    have := hx.nils_inv
    subst this
    split at ha
    · rename_i h0
      have h0 := beq_true.1 h0
      subst h0
      cases ha
      exact ⟨[], .nil, by simp, fun _ => rfl, by simp [Builtin.firstCells]⟩
    · cases ha
  · rename_i t
    have := hx.string_inv
    subst this
    split at ha
    · rename_i h1
      have h1 := beq_true.1 h1
      subst h1
      cases ha
      refine ⟨strCells t.data.toList, F2.refl _ fun v hv => ?_, by rw [strCells_eq]; simp, fun _ => rfl, fun w' _ => ?_⟩
      · rw [strCells_eq] at hv
        obtain ⟨b, _, rfl⟩ := List.mem_map.1 hv
        exact .int _ _
      · simp only [Builtin.firstCells, Sem.run_pure]
        congr 1
        rw [strCells_eq]
        have : t.extract 0 t.size = t := by simp
        rw [this]
        apply Array.ext'
        simp
    · cases ha
  · cases ha

theorem zeroCells_length (z : Array Value) (n : Nat) : (Builtin.zeroCells z n).size = n * z.size := by simp [Builtin.zeroCells]

/-- the operation where there is room -/
theorem run_append_place {P : Program} {st elem xt : TypeId} {d : TypeDesc} {z : Nat} {base : Option Addr} {len cap2 n : Nat} {x2 : Value} {m : Array Value} {w : World} (at_ : Array TypeId) (ty : TypeId)
    (h0 : at_[0]? = some st) (h1 : at_[1]? = some xt) (hst : ∀ w, (underlying st).run P w = .ok (.slice elem) w) (hz : ∀ w, (sizeOf elem).run P w = .ok z w)
    (hxt : ∀ w, (underlying xt).run P w = .ok d w) (hd : ∀ k, d ≠ .int k) (hn : ∀ w', (Builtin.lenOf x2).run P w' = .ok n w') (hm : (Builtin.firstCells z n x2).run P w = .ok m w) (hroom : len + n ≤ cap2) :
    (Builtin.append_ at_ ty #[.slice base len cap2, x2]).run P w =
      match base with
      | some a => ((storeCells (a.add (len * z)) m.toList).run P w).andThen fun _ w' => .ok (.slice base (len + n) cap2) w'
      | none => .ok (.slice base (len + n) cap2) w := by
  unfold Builtin.append_
  simp only [h0, h1]
  simp only [List.getElem?_toArray, List.getElem?_cons_zero, List.getElem?_cons_succ, Sem.run_bind, hst, Result.andThen_ok, hz, hxt, Sem.run_pure, Bool.false_eq_true, if_false, Bool.not_false, if_true, hn, if_pos hroom, hm]
  cases base with
  | none => simp
  | some a => simp

theorem run_append_grow {P : Program} {st elem xt : TypeId} {d : TypeDesc} {z : Nat} {ei : TypeInfo} {base : Option Addr} {len cap2 n : Nat} {x2 zero : Value} {m old : Array Value} {w : World} (at_ : Array TypeId) (ty : TypeId)
    (h0 : at_[0]? = some st) (h1 : at_[1]? = some xt) (hst : ∀ w, (underlying st).run P w = .ok (.slice elem) w) (hz : ∀ w, (sizeOf elem).run P w = .ok z w)
    (hxt : ∀ w, (underlying xt).run P w = .ok d w) (hd : ∀ k, d ≠ .int k) (hn : ∀ w', (Builtin.lenOf x2).run P w' = .ok n w')
    (hei : ∀ w, (typeInfo elem).run P w = .ok ei w) (hzv : ∀ w, (zeroValue elem).run P w = .ok zero w)
    (hm : ∀ w', w'.heap = w.heap → (Builtin.firstCells z n x2).run P w' = .ok m w') (ho : ∀ w', w'.heap = w.heap → (Builtin.firstCells z len (.slice base len cap2)).run P w' = .ok old w')
    (hroom : ¬ len + n ≤ cap2) (hneed : ((len + n : Nat) : Int) ≤ IntKind.i64.max) (hbig : Builtin.nextslicecap (len + n) cap2 * ei.bytes ≤ 2 ^ 48) :
    ∃ newCap, len + n ≤ newCap ∧ (Builtin.append_ at_ ty #[.slice base len cap2, x2]).run P w =
      .ok (.slice (some ⟨w.heap.size, 0, none⟩) (len + n) newCap) (World.pushed { w with drawn := w.drawn + 1 } (.cells (old ++ m ++ Builtin.zeroCells zero.cells (newCap - (len + n))) elem)) := by
  refine ⟨(Question.appendCap (len + n) cap2 elem).cut (w.tape w.drawn (Question.appendCap (len + n) cap2 elem)), by simp [Question.cut], ?_⟩
  unfold Builtin.append_
  simp only [h0, h1]
  simp only [List.getElem?_toArray, List.getElem?_cons_zero, List.getElem?_cons_succ, Sem.run_bind, hst, Result.andThen_ok, hz, hxt, Sem.run_pure, Bool.false_eq_true, if_false, Bool.not_false, if_true, hn, if_neg hroom,
    hei]
  rw [if_neg (fun hh => by have := hh.1; omega)]
  simp only [Sem.run_bind, Result.andThen_ok, hei]
  rw [if_neg (by omega)]
  simp only [Sem.run_bind, Sem.run_pure, Result.andThen_ok, run_choose, Question.forced, Bool.false_eq_true, if_false, hei, run_askRoom]
  rw [ho { w with drawn := w.drawn + 1 } rfl]
  simp only [Result.andThen_ok]
  rw [hm { w with drawn := w.drawn + 1 } rfl]
  simp only [Result.andThen_ok, hzv, newRow, Sem.run_bind, run_newObj, Sem.run_pure]
  rfl

theorem VR.slice_len {ρ : Ren} {b : Option Addr} {l c w} (h : VR ρ (.slice b l c) w) : ∃ b2 c2, w = .slice b2 l c2 := by
  cases h <;> exact ⟨_, _, rfl⟩

theorem openFresh_ok {ρ s s' w id e e2 z} {all m rest : List Value} (h : HR ρ s w) (ho : openFresh s all e z = some (id, s')) (hz : 0 < z) (hm : VL ρ all m) :
    ∃ r, r.blk = w.heap.size ∧ r.sh = 0 ∧ r.fam = some s.nfam ∧ r.esz = z ∧ r.end1 = all.length ∧ r.end2 = (m ++ rest).length ∧ (ρ.ext s.next r) id = some r ∧
      HR (ρ.ext s.next r) s' (World.pushed w (.cells (m ++ rest).toArray e2)) ∧ Ev ρ w (ρ.ext s.next r) (World.pushed w (.cells (m ++ rest).toArray e2)) := by
  unfold openFresh at ho
  split at ho
  · cases ho
  · rename_i s1 h1
    have e1 := setFam_some h1
    subst e1
    unfold newOpen at ho
    simp only [fN_eq, T.put_eq] at ho
    cases ho
    obtain ⟨k1, k2⟩ := open_ok (sF := ⟨s.heap.upd s.next ⟨.cells all e, some s.nfam, 0, z⟩, s.next + 1, s.fams.upd s.nfam ⟨s.next, 0⟩, s.nfam + 1⟩) (f := s.nfam) (v := 0) (z := z) (lim := 0) (elem := e) (rest := rest) (e2 := e2) h rfl rfl (by simp) (by simp) hz rfl
      (fun b k i hk hi => by
        unfold readable at hi ⊢
        obtain ⟨r, hr, q1, _⟩ := h.live b k hk
        cases hf : k.fam with
        | none => rfl
        | some f =>
          rw [hf] at hi
          have := (h.fam b r f hr (q1.symm.trans hf)).1
          simp only at hi
          rw [T.get_upd_ne _ _ (by omega)] at hi
          exact hi) hm
    exact ⟨_, rfl, rfl, rfl, rfl, rfl, rfl, Ren.ext_same .., k1, k2⟩

theorem openTail_ok {ρ s s' w id e e2 f v z lim b k} {all m rest : List Value} (h : HR ρ s w) (hb : s.heap.get b = some k) (hkf : k.fam = some f) (fm : Fam) (hfm : s.fams.get f = some fm) (hlim : lim ≤ fm.lim)
    (ho : openTail s all e f v z lim = some (id, s')) (hz : 0 < z) (hm : VL ρ all m) :
    ∃ r, r.blk = w.heap.size ∧ r.sh = 0 ∧ r.fam = some f ∧ r.esz = z ∧ r.end1 = all.length ∧ r.end2 = (m ++ rest).length ∧ (ρ.ext s.next r) id = some r ∧
      HR (ρ.ext s.next r) s' (World.pushed w (.cells (m ++ rest).toArray e2)) ∧ Ev ρ w (ρ.ext s.next r) (World.pushed w (.cells (m ++ rest).toArray e2)) := by
  unfold openTail at ho
  split at ho
  · cases ho
  · rename_i s1 h1
    have e1 := setFam_some h1
    subst e1
    unfold newOpen at ho
    simp only [fN_eq, T.put_eq] at ho
    cases ho
    obtain ⟨r0, hr0, q0, _⟩ := h.live b k hb
    have hfn := (h.fam b r0 f hr0 (q0.symm.trans hkf)).1
    obtain ⟨k1, k2⟩ := open_ok (sF := ⟨s.heap.upd s.next ⟨.cells all e, some f, v, z⟩, s.next + 1, s.fams.upd f ⟨s.next, lim⟩, s.nfam⟩) (f := f) (v := v) (z := z) (lim := lim) (elem := e) (rest := rest) (e2 := e2) h rfl rfl (Nat.le_refl _) hfn hz rfl
      (fun b' k' i hk hi => by
        unfold readable at hi ⊢
        cases hf : k'.fam with
        | none => rfl
        | some f' =>
          rw [hf] at hi
          simp only at hi ⊢
          by_cases hff : f = f'
          · subst hff
            cases hg : (s.fams.upd f ⟨s.next, lim⟩).get f with
            | none => rw [hg] at hi; cases hi
            | some y =>
              rw [hg] at hi
              have := T.get_upd_some _ hg
              subst this
              simp only [Bool.or_eq_true, beq_true, blt_true] at hi
              rw [hfm]
              simp only [Bool.or_eq_true, beq_true, blt_true]
              rcases hi with hi | hi
              · obtain ⟨r', hr', _⟩ := h.live b' k' hk
                have := h.dom b' r' hr'
                omega
              · exact .inr (by omega)
          · rw [T.get_upd_ne _ _ hff] at hi
            exact hi) hm
    exact ⟨_, rfl, rfl, rfl, rfl, rfl, rfl, Ren.ext_same .., k1, k2⟩

end Go.Can

/-
  THE CANONICAL INTERPRETER'S SOUNDNESS, eighth part: append, whole.
-/
namespace Go.Can

theorem grow_cells {P : Program} {ρ s w z} {base : Option Addr} {len cap cap2 : Nat} {base2 : Option Addr} {e need new id s'} (h : HR ρ s w) (hv : VR ρ (.slice base len cap) (.slice base2 len cap2)) (hg : grow s e z base len cap need new = some (id, s')) :
    ∃ old m, VL ρ old m ∧ old.length = len * z ∧ (∀ w' : World, w'.heap = w.heap → (Builtin.firstCells z len (.slice base2 len cap2)).run P w' = .ok m.toArray w') ∧
      ((openFresh s (old ++ new) e z = some (id, s') ∧ cap2 = cap) ∨
      ∃ b o k c e0 f fm, base = some ⟨b, o, none⟩ ∧ s.heap.get b = some k ∧ k.obj = .cells c e0 ∧ k.fam = some f ∧ k.esz = z ∧ o + cap * z = c.length ∧ s.fams.get f = some fm ∧ fm.owner = b ∧ new.all one = true ∧ loadN s b o (len * z) = some old ∧
        openTail s (old ++ new) e f (k.vsh + o) z (min fm.lim (k.vsh + o + len * z)) = some (id, s')) := by
  unfold grow at hg
  split at hg
  · split at hg
    · rename_i h0
      have h0 := beq_true.1 h0
      subst h0
      have := hv.nils_inv
      cases this
      exact ⟨[], [], .nil, by simp, fun w' _ => by simp [Builtin.firstCells], .inl ⟨hg, rfl⟩⟩
    · cases hg
  · rename_i b o
    split at hg
    · cases hg
    · rename_i k hk
      split at hg
      · rename_i c e0 hobj
        split at hg
        · cases hg
        · rename_i old hold
          rw [fL_eq] at hg
          obtain ⟨r, o2, c2, hr, heq, hcase⟩ := hv.slice_inv
          cases heq
          have hcells : ∃ m, VL ρ old m ∧ ∀ w' : World, w'.heap = w.heap → (Builtin.firstCells z len (.slice (some ⟨r.blk, o2, none⟩) len cap2)).run P w' = .ok m.toArray w' := by
            rcases hcase with ⟨rfl, _⟩ | ⟨rfl, _, _, _⟩ | ⟨rfl, _, _, _⟩
            · obtain ⟨m, hm, hrun⟩ := loadCells_heap (P := P) h hr hold
              exact ⟨m, hm, by simpa [Builtin.firstCells] using hrun⟩
            · obtain ⟨m, hm, hrun⟩ := loadCells_heap (P := P) h hr hold
              exact ⟨m, hm, by simpa [Builtin.firstCells] using hrun⟩
            · simp [loadN] at hold
              subst hold
              exact ⟨[], .nil, by simp [Builtin.firstCells, loadCells, loadCellsFrom]⟩
          obtain ⟨m, hm, hrun⟩ := hcells
          obtain ⟨r', hr', q1, q2, q3, hor⟩ := h.live b k hk
          rw [hr] at hr'; cases hr'
          simp only [OR, hobj] at hor
          obtain ⟨_, _, _, _, hend, _⟩ := hor
          refine ⟨old, m, hm, loadN_length hold, hrun, ?_⟩
          split at hg
          · rename_i hf
            left
            refine ⟨hg, ?_⟩
            rcases hcase with ⟨_, rfl⟩ | ⟨_, ⟨f, h1⟩, _, _⟩ | ⟨_, rfl, rfl, _⟩
            · rfl
            · rw [q1, h1] at hf; cases hf
            · rfl
          · rename_i f hf
            split at hg
            · cases hg
            · rename_i hz
              have hz := beq_true.1 hz
              split at hg
              · rename_i ht
                have ht := beq_false.1 ht
                left
                refine ⟨hg, ?_⟩
                rcases hcase with ⟨_, rfl⟩ | ⟨_, _, h2, _⟩ | ⟨_, rfl, rfl, _⟩
                · rfl
                · rw [← q3, hz, ← hend] at h2; exact absurd h2 ht
                · rfl
              · rename_i ht
                have ht := beq_true.1 ht
                split at hg
                · cases hg
                · rename_i fm hfm
                  split at hg
                  · cases hg
                  · rename_i how
                    simp only [Bool.and_eq_true, beq_true] at how
                    rw [fN_eq, fN_eq] at hg
                    right
                    exact ⟨b, o, k, c, e0, f, fm, rfl, hk, hobj, hf, hz, ht, hfm, how.1, how.2, hold, hg⟩
      · cases hg
  · cases hg

theorem append_ok {P : Program} {E : Env} {ρ s s' w st xt d sl x sl2 x2 v} (hE : EnvOK P E) (h : HR ρ s w) (hsl : VR ρ sl sl2) (hx : VR ρ x x2) (at_ : Array TypeId) (ty : TypeId) (h0 : at_[0]? = some st) (h1 : at_[1]? = some xt)
    (hxt : ∀ w, (underlying xt).run P w = .ok d w) (hd : ∀ k, d ≠ .int k) (ha : Can.append E s st sl x = some (v, s')) :
    ∃ ρ' v2 w', (Builtin.append_ at_ ty #[sl2, x2]).run P w = .ok v2 w' ∧ VR ρ' v v2 ∧ HR ρ' s' w' ∧ Ev ρ w ρ' w' := by
  unfold Can.append at ha
  split at ha
  · cases ha
  · rename_i ti hti
    split at ha
    · rename_i elem hu
      split at ha
      · cases ha
      · rename_i te hte
        have hst : ∀ w, (underlying st).run P w = .ok (.slice elem) w := by have := (hE.ti st ti hti).1; rw [hu] at this; exact this
        obtain ⟨_, hz, hzv, _, ⟨ei, hei, hbytes⟩, hzs, _⟩ := hE.ti elem te hte
        split at ha
        · rename_i base len cap
          split at ha
          · cases ha
          · rename_i n new hX
            obtain ⟨m, hm, hnl, hlen, hmrun⟩ := appendX_ok (P := P) h hx hX
            rw [fN_eq] at ha
            obtain ⟨base2, cap2, rfl⟩ := hsl.slice_len
            split at ha
            · -- there is room
              rename_i hroom
              have hroom := ble_true.1 hroom
              split at ha
              · rename_i b o
                split at ha
                · cases ha
                · rename_i s1 hs1
                  cases ha
                  obtain ⟨r, o2, c2, hr, heq, hcase⟩ := hsl.slice_inv
                  cases heq
                  rcases hcase with ⟨rfl, rfl⟩ | ⟨rfl, ⟨f, hf⟩, a1, a2⟩ | ⟨rfl, rfl, rfl, f, hf⟩
                  · obtain ⟨w', k1, k2, k3⟩ := storeN_ok (P := P) hr new m s _ w (o + len * te.size) 0 h hm (by simpa using hs1)
                    refine ⟨ρ, _, w', ?_, .slice hr, k2, k3⟩
                    rw [run_append_place at_ ty h0 h1 hst hz hxt hd hlen (hmrun w rfl) hroom]
                    simp only [add_eq, Nat.add_assoc] at k1 ⊢
                    rw [k1]; rfl
                  · obtain ⟨w', k1, k2, k3⟩ := storeN_ok (P := P) hr new m s _ w (o + len * te.size) 0 h hm (by simpa using hs1)
                    refine ⟨ρ, _, w', ?_, .tail hr hf a1 a2, k2, k3⟩
                    have hle := (h.fam b r f hr hf).2
                    have : cap ≤ cap2 := by
                      have h2 : cap * r.esz ≤ cap2 * r.esz := by omega
                      exact Nat.le_of_mul_le_mul_right h2 hle.1
                    rw [run_append_place at_ ty h0 h1 hst hz hxt hd hlen (hmrun w rfl) (by omega)]
                    simp only [add_eq, Nat.add_assoc] at k1 ⊢
                    rw [k1]; rfl
                  · have hn0 : n = 0 := by omega
                    subst hn0
                    simp at hnl
                    subst hnl
                    cases hm
                    simp [storeN] at hs1
                    subst hs1
                    refine ⟨ρ, .slice (some ⟨r.blk, o2, none⟩) 0 0, w, ?_, .empty hr hf, h, Ev.refl ρ w⟩
                    rw [run_append_place at_ ty h0 h1 hst hz hxt hd hlen (hmrun w rfl) hroom]
                    simp [storeCells]
              · split at ha
                · rename_i h00
                  have h00 := beq_true.1 h00
                  cases ha
                  have := hsl.nils_inv
                  cases this
                  refine ⟨ρ, _, w, ?_, .nils _ _, h, Ev.refl ρ w⟩
                  rw [run_append_place at_ ty h0 h1 hst hz hxt hd hlen (hmrun w rfl) hroom]
                · cases ha
              · cases ha
            · -- there is none
              rename_i hroom
              have hroom := ble_false.1 hroom
              split at ha
              · cases ha
              · rename_i hsmall
                rw [Bool.or_eq_false_iff, beq_false, ble_false] at hsmall
                obtain ⟨hz0, hsmall⟩ := hsmall
                split at ha
                · cases ha
                · rename_i id s1 hg
                  cases ha
                  obtain ⟨old, mo, hmo, hol, horun, hcases⟩ := grow_cells (P := P) h hsl hg
                  have hzp : 0 < te.size := by omega
                  have growing : ¬ len + n ≤ cap2 → ∃ newCap, len + n ≤ newCap ∧ (Builtin.append_ at_ ty #[.slice base2 len cap2, x2]).run P w =
                      .ok (.slice (some ⟨w.heap.size, 0, none⟩) (len + n) newCap) (World.pushed { w with drawn := w.drawn + 1 } (.cells ((mo ++ m) ++ (Builtin.zeroCells te.zero.cells (newCap - (len + n))).toList).toArray elem)) := by
                    intro hno
                    have hb1 : len + n < 2 ^ 40 := by
                      have : (len + n + cap + 2) * 8 * (te.bytes + 1) < 2 ^ 40 := by omega
                      have h8 : (len + n + cap + 2) * 1 ≤ (len + n + cap + 2) * 8 * (te.bytes + 1) := by
                        rw [Nat.mul_assoc]; exact Nat.mul_le_mul_left _ (by omega)
                      omega
                    obtain ⟨newCap, hnc, hrun⟩ := run_append_grow (P := P) at_ ty h0 h1 hst hz hxt hd hlen hei hzv (fun w' hw' => hmrun w' hw') (fun w' hw' => horun w' hw') hno
                      (by have : IntKind.i64.max = 9223372036854775807 := rfl
                          rw [this]; omega)
                      (by
                        have h1 := nextslicecap_le (need := len + n) (old := cap2) (by omega)
                        have h2 : Builtin.nextslicecap (len + n) cap2 * ei.bytes ≤ 2 * (len + n) * ei.bytes := Nat.mul_le_mul_right _ h1
                        have h3 : 2 * (len + n) * ei.bytes ≤ (len + n + cap + 2) * 8 * (te.bytes + 1) := by
                          rw [hbytes]
                          exact Nat.mul_le_mul (by omega) (by omega)
                        omega)
                    refine ⟨newCap, hnc, ?_⟩
                    rw [hrun]
                    congr 3
                    apply Array.ext'
                    simp
                  have fin : ∀ newCap, len + n ≤ newCap → ∀ r : RB, (∃ f, r.fam = some f) → r.sh = 0 → r.esz = te.size → r.end1 = (old ++ new).length → r.end2 = ((mo ++ m) ++ (Builtin.zeroCells te.zero.cells (newCap - (len + n))).toList).length → ∀ ρ' : Ren, ρ' id = some r →
                      VR ρ' (.slice (some ⟨id, 0, none⟩) (len + n) (len + n)) (.slice (some ⟨r.blk, 0, none⟩) (len + n) newCap) := by
                    intro newCap hnc r ⟨f, hf⟩ hsh hes he1 he2 ρ' hρ
                    have hv := VR.tail (ρ := ρ') (b := id) (o := 0) (r := r) (l := len + n) (c := len + n) (c2 := newCap) hρ hf
                      (by rw [hes, he1]; simp [hol, hnl, Nat.add_mul])
                      (by
                        rw [hes, he2]
                        simp only [List.length_append, Array.length_toList, zeroCells_length, hzs]
                        rw [← hmo.length, ← hm.length, hol, hnl, ← Nat.add_mul, ← Nat.add_mul, Nat.add_sub_cancel' hnc]
                        exact Nat.zero_add _)
                    rw [hsh] at hv
                    exact hv
                  rcases hcases with ⟨hfresh, rfl⟩ | ⟨b, o, k, c, e0, f, fm, rfl, hk, hobj, hkf, hkz, htail, hfm, how, hones, hold, htl⟩
                  · obtain ⟨newCap, hnc, hrun⟩ := growing hroom
                    obtain ⟨r, b1, b2, b3, b4, b5, b6, b7, b8, b9⟩ := openFresh_ok (rest := (Builtin.zeroCells te.zero.cells (newCap - (len + n))).toList) (e2 := elem) h.drew hfresh hzp (hmo.append hm)
                    refine ⟨_, _, _, hrun, ?_, b8, (Ev.drew ρ w).trans b9⟩
                    have := fin newCap hnc r ⟨_, b3⟩ b2 b4 b5 b6 _ b7
                    rw [b1] at this
                    exact this
                  · by_cases hno : len + n ≤ cap2
                    · -- the real block has room
                      obtain ⟨r, o2, c2, hr, heq, hcase⟩ := hsl.slice_inv
                      cases heq
                      obtain ⟨r', hr', q1, q2, q3, hor⟩ := h.live b k hk
                      rw [hr] at hr'; cases hr'
                      simp only [OR, hobj] at hor
                      obtain ⟨cc, ee, fr, w1, w2, w3, w4, w5, w6, w7⟩ := hor
                      rcases hcase with ⟨_, rfl⟩ | ⟨rfl, _, a1, a2⟩ | ⟨rfl, rfl, rfl, _⟩
                      · omega
                      · have hes : r.esz = te.size := q3.symm.trans hkz
                        have hfit : o + len * te.size + new.length ≤ r.end2 := by
                          rw [hnl, ← a2, hes, Nat.add_assoc, ← Nat.add_mul]
                          exact Nat.add_le_add_left (Nat.mul_le_mul_right _ hno) _
                        have hnlm := hm.length
                        obtain ⟨c', g1, g2, g3, g4⟩ := storeCells_run (P := P) m w r.blk (r.sh + o + len * te.size) 0 cc ee fr w1 w6
                          (fun u hu => by
                            obtain ⟨j, hj⟩ := List.getElem?_of_mem hu
                            have hjl : j < new.length := by rw [hnlm]; exact (List.getElem?_eq_some_iff.1 hj).1
                            have := hm.get' j (List.getElem?_eq_getElem hjl) hj
                            exact one_oneCell this (List.all_eq_true.1 hones _ (List.getElem_mem hjl)))
                          (by rw [w4]; omega)
                        have holdR : ∀ i v, old[i]? = some v → ∃ u, cc[r.sh + o + i]? = some u ∧ VR ρ v u := by
                          have key : ∀ (n' o' : Nat) (l : List Value), loadN s b o' n' = some l → ∀ i v, l[i]? = some v → ∃ u, cc[r.sh + o' + i]? = some u ∧ VR ρ v u := by
                            intro n'
                            induction n' with
                            | zero => intro o' l hl i v hv; simp [loadN] at hl; subst hl; simp at hv
                            | succ n' ih =>
                              intro o' l hl i v hv
                              simp only [loadN] at hl
                              split at hl
                              · cases hl
                              · rename_i v0 hv0
                                split at hl
                                · cases hl
                                · rename_i l' hl'
                                  cases hl
                                  cases i with
                                  | zero =>
                                    simp at hv; subst hv
                                    obtain ⟨u, hu, hvu⟩ := cell_ok h hr hv0
                                    refine ⟨u, ?_, hvu⟩
                                    simpa [World.cell?, w1] using hu
                                  | succ i =>
                                    obtain ⟨u, hu, hvu⟩ := ih (o' + 1) l' hl' i v (by simpa using hv)
                                    exact ⟨u, by rw [← hu]; congr 1; omega, hvu⟩
                          exact key _ o old hold
                        unfold openTail at htl
                        split at htl
                        · cases htl
                        · rename_i s2 hs2
                          have e1 := setFam_some hs2
                          subst e1
                          unfold newOpen at htl
                          simp only [fN_eq, T.put_eq] at htl
                          cases htl
                          obtain ⟨z1, z2⟩ := open_place_ok (sF := ⟨s.heap.upd s.next ⟨.cells (old ++ new) elem, some f, k.vsh + o, te.size⟩, s.next + 1, s.fams.upd f ⟨s.next, min fm.lim (k.vsh + o + len * te.size)⟩, s.nfam⟩) (p := len * te.size) h hk hobj hr hkf fm hfm how rfl rfl rfl hzp rfl rfl rfl hol w1 w4 w6 holdR hm g2
                            (fun j hj => g3 j (by omega)) (fun j hj => by rw [← g4 j hj]; congr 1) hfit
                          refine ⟨_, .slice (some ⟨r.blk, r.sh + o, none⟩) (len + n) cap2, _, ?_, ?_, z1, z2⟩
                          · rw [run_append_place at_ ty h0 h1 hst hz hxt hd hlen (hmrun w rfl) hno]
                            simp only [add_eq]
                            rw [g1]
                            rfl
                          · have hv := VR.tail (ρ := ρ.ext s.next ⟨r.blk, r.sh + o, some f, k.vsh + o, te.size, (old ++ new).length, r.end2 - o⟩) (b := s.next) (o := 0) (l := len + n) (c := len + n) (c2 := cap2) (Ren.ext_same ..) rfl
                              (by simp [hol, hnl, Nat.add_mul]) (by simp only; rw [← a2, hes]; omega)
                            exact hv
                      · omega
                    · obtain ⟨newCap, hnc, hrun⟩ := growing hno
                      obtain ⟨r, b1, b2, b3, b4, b5, b6, b7, b8, b9⟩ := openTail_ok (rest := (Builtin.zeroCells te.zero.cells (newCap - (len + n))).toList) (e2 := elem) h.drew hk hkf fm hfm (Nat.min_le_left _ _) htl hzp (hmo.append hm)
                      refine ⟨_, _, _, hrun, ?_, b8, (Ev.drew ρ w).trans b9⟩
                      have := fin newCap hnc r ⟨_, b3⟩ b2 b4 b5 b6 _ b7
                      rw [b1] at this
                      exact this
        · cases ha
    · cases ha

end Go.Can
