/- the operations' first part. -/
import Derived.Test.YtfiflkjniodbeaaGreatDoorCan2
import GoSem.Dispatch
import Derived.Laws.Tables
/-
  THE CANONICAL INTERPRETER'S SOUNDNESS, ninth part: the operations.
-/
namespace Go.Can

def NxR (ρ : Ren) : Nx → Next → Prop
  | .value v, .value u => VR ρ v u
  | .value v, .skip => VR ρ v undef
  | .enter f args, .enter g args2 => f = g ∧ VL ρ args args2.toList
  | .round l f t n as bd d, .round l2 g t2 as2 bd2 => (∃ r, ρ l = some r ∧ l2 = r.blk) ∧ f = g ∧ TR ρ t n t2 ∧ as = as2 ∧ bd = bd2 ∧ d = d
  | _, _ => False

theorem val_some {s s' : St} {v : Value} {nx : Nx} (h : val s v = some (nx, s')) : nx = .value v ∧ s' = s := by
  unfold val at h
  rw [fV_eq] at h
  cases h
  exact ⟨rfl, rfl⟩

theorem closed_VR {ρ : Ren} : ∀ (n : Nat) (v : Value), closed n v = true → VR ρ v v
  | 0, v, h => by simp [closed] at h
  | n + 1, v, h => by
    have L : ∀ l : List Value, closed.closedL n l = true → ∀ x ∈ l, VR ρ x x := by
      intro l
      induction l with
      | nil => intro _ x hx; cases hx
      | cons y l ih =>
        intro hl x hx
        simp only [closed.closedL, Bool.and_eq_true] at hl
        cases hx with
        | head => exact closed_VR n y hl.1
        | tail _ hm => exact ih hl.2 x hm
    have M : ∀ a : Array Value, closed.closedL n a.toList = true → VL ρ a.toList a.toList := fun a ha => F2.refl _ (L _ ha)
    cases v with
    | bool b => exact .bool b
    | int k i => exact .int k i
    | string t => exact .string t
    | pointer a => cases a with
      | none => exact .nilp
      | some a => simp [closed] at h
    | slice a l c => cases a with
      | none => exact .nils l c
      | some a => simp [closed] at h
    | map a => cases a with
      | none => exact .nilm
      | some a => simp [closed] at h
    | nilFunc => exact .nilf
    | nilIface => exact .nili
    | iface t v => exact .iface (closed_VR n v (by simpa [closed] using h))
    | agg a => exact VR.agg' (M a (by simpa [closed] using h))
    | tuple a => exact VR.tuple' (M a (by simpa [closed] using h))
    | func f x c => cases f with
      | func g =>
        simp only [closed, Bool.and_eq_true] at h
        have h1 := arr_of_vl (M x h.1); have h2 := arr_of_vl (M c h.2)
        exact .func (.same g) h1.1 h1.2 h2.1 h2.2
      | _ => simp [closed] at h
    | _ => simp [closed] at h

section
variable {P : Program} {E : Env} {ρ : Ren} {s s' : St} {w : World} {nx : Nx}

/-- what an operation does, told of its run -/
def Does (P : Program) (_ : Env) (ρ : Ren) (w : World) (s' : St) (nx : Nx) (m : Sem Next) : Prop :=
  ∃ ρ' nx2 w', m.run P w = .ok nx2 w' ∧ NxR ρ' nx nx2 ∧ HR ρ' s' w' ∧ Ev ρ w ρ' w'

theorem does_value {v u : Value} {m : Sem Value} (h : HR ρ s w) (hr : m.run P w = .ok u w) (hv : VR ρ v u) : Does P E ρ w s (.value v) (do pure (.value (← m))) :=
  ⟨ρ, .value u, w, by simp [hr], hv, h, Ev.refl ρ w⟩

theorem does_pure {v u : Value} (h : HR ρ s w) (hv : VR ρ v u) : Does P E ρ w s (.value v) (pure (.value u)) :=
  ⟨ρ, .value u, w, rfl, hv, h, Ev.refl ρ w⟩

theorem ex_alloc (hE : EnvOK P E) (h : HR ρ s w) {e : TypeId} {ti : TI} (ht : E.ti e = some ti) {id : Nat} (hn : new s (.cells ti.zero.cells.toList e) = some (id, s')) :
    Does P E ρ w s' (.value (.pointer (some ⟨id, 0, none⟩))) (do pure (.value (← Instr.alloc e true (.tuple #[])))) := by
  obtain ⟨_, _, hz, hcl, _, _, _⟩ := hE.ti e ti ht
  have hzz := closed_VR (ρ := ρ) 4 _ hcl
  have hd : data ti.zero = true := by cases hv : ti.zero <;> first | rfl | (rw [hv] at hcl; simp [closed] at hcl)
  obtain ⟨r, b1, b2, b3, b4, b5, b6⟩ := newCells_ok (e2 := e) h hn (hzz.cells hd)
  refine ⟨_, .value (.pointer (some ⟨w.heap.size, 0, none⟩)), _, ?_, ?_, b5, b6⟩
  · simp only [Instr.alloc, Sem.run_bind, hz, Result.andThen_ok, newVar, newRow, run_newObj, Sem.run_pure]
    rfl
  · have := VR.ptr (ρ := ρ.ext s.next r) (b := id) (o := 0) b4
    rw [b1, b2] at this
    exact this

theorem ex_box (h : HR ρ s w) {e : TypeId} {v u : Value} (hv : VR ρ v u) (hd : data v = true) {id : Nat} (hn : new s (.cells v.cells.toList e) = some (id, s')) :
    Does P E ρ w s' (.value (.pointer (some ⟨id, 0, none⟩))) (do pure (.value (← Instr.box e u))) := by
  obtain ⟨r, b1, b2, b3, b4, b5, b6⟩ := newCells_ok (e2 := e) h hn (hv.cells hd)
  refine ⟨_, .value (.pointer (some ⟨w.heap.size, 0, none⟩)), _, ?_, ?_, b5, b6⟩
  · simp only [Instr.box, Sem.run_bind, Result.andThen_ok, newVar, newRow, run_newObj, Sem.run_pure]
    rfl
  · have := VR.ptr (ρ := ρ.ext s.next r) (b := id) (o := 0) b4
    rw [b1, b2] at this
    exact this

theorem fill_ok {places : Nat → Option (Nat × Nat)} : ∀ (ps qs : List (Nat × Value)) (c d c' : Array Value), VL ρ c.toList d.toList → F2 (fun p q => p.1 = q.1 ∧ VR ρ p.2 q.2) ps qs → (∀ p ∈ ps, data p.2 = true) → Instr.fill places c ps = some c' →
    ∃ d', Instr.fill places d qs = some d' ∧ VL ρ c'.toList d'.toList := by
  intro ps
  induction ps with
  | nil =>
    intro qs c d c' hc hq _ hf
    cases hq
    simp [Instr.fill] at hf; subst hf
    exact ⟨d, rfl, hc⟩
  | cons p ps ih =>
    intro qs c d c' hc hq hd hf
    cases hq with
    | cons hpq hq =>
      rename_i q qs
      obtain ⟨i, v⟩ := p
      obtain ⟨j, u⟩ := q
      obtain ⟨rfl, hv⟩ := hpq
      have hcells := hv.cells (hd (i, v) (by simp))
      have hlen := hcells.length
      have hcl := hc.length
      simp at hlen hcl
      simp only [Instr.fill] at hf ⊢
      cases hp : places i with
      | none => simp only [hp] at hf; cases hf
      | some x =>
        obtain ⟨off, size⟩ := x
        simp only [hp] at hf ⊢
        split at hf
        · cases hf
        · rename_i hcond
          rw [if_neg (by rw [← hlen, ← hcl]; exact hcond)]
          refine ih qs _ _ c' ?_ hq (fun p hp => hd p (by simp [hp])) hf
          have fold : ∀ (l m : List Value) (k : Nat) (a b : Array Value), VL ρ l m → VL ρ a.toList b.toList →
              VL ρ ((l.zipIdx k).foldl (fun cs x => cs.setIfInBounds (off + x.2) x.1) a).toList ((m.zipIdx k).foldl (fun cs x => cs.setIfInBounds (off + x.2) x.1) b).toList := by
            intro l
            induction l with
            | nil => intro m k a b hlm hab; cases hlm; exact hab
            | cons x l ih2 =>
              intro m k a b hlm hab
              cases hlm with
              | cons hx hl =>
                rename_i y m
                simp only [List.zipIdx_cons, List.foldl_cons]
                refine ih2 m (k + 1) _ _ hl (F2.of_get ?_ ?_)
                · simpa using hab.length
                · intro i' x' y' hx' hy'
                  simp only [Array.toList_setIfInBounds, List.getElem?_set] at hx' hy'
                  have hl2 := hab.length
                  simp at hl2
                  by_cases he : off + k = i'
                  · simp only [he, if_true] at hx' hy'
                    split at hx'
                    · split at hy'
                      · cases hx'; cases hy'; exact hx
                      · cases hy'
                    · cases hx'
                  · rw [if_neg he] at hx' hy'
                    exact hab.get' i' hx' hy'
          have := fold v.cells.toList u.cells.toList 0 c d hcells hc
          rw [← Array.foldl_toList, ← Array.foldl_toList]
          simpa [Array.toList_zipIdx] using this

theorem fillL_ok {places : Nat → Option (Nat × Nat)} {ps qs : List (Nat × Value)} {c d : Array Value} {l : List Value} (hc : VL ρ c.toList d.toList) (hq : F2 (fun p q => p.1 = q.1 ∧ VR ρ p.2 q.2) ps qs) (hf : fillL places c ps = some l) :
    ∃ d', Instr.fill places d qs = some d' ∧ VL ρ l d'.toList := by
  unfold fillL at hf
  split at hf
  · cases hf
  · rename_i hd
    split at hf
    · cases hf
    · rename_i c' hc'
      rw [fL_eq] at hf
      cases hf
      exact fill_ok ps qs c d c' hc hq (fun p hp => List.all_eq_true.1 hd p hp) hc'

end
end Go.Can

/-
  THE CANONICAL INTERPRETER'S SOUNDNESS, tenth part: the operations, more.
-/
namespace Go.Can
variable {P : Program} {E : Env} {ρ : Ren} {s s' : St} {w : World} {nx : Nx}

theorem places_ok (hE : EnvOK P E) : ∀ (fs : List Field) (pl : List (Nat × Nat)), places E fs = some pl → ∀ w, (fs.mapM fun f => (do pure (f.offset, ← sizeOf f.type) : Sem (Nat × Nat))).run P w = .ok pl w
  | [], pl, h, w => by simp [places] at h; subst h; rfl
  | f :: fs, pl, h, w => by
    simp only [places] at h
    split at h
    · cases h
    · rename_i ti ht
      split at h
      · cases h
      · rename_i l hl
        cases h
        have ih := places_ok hE fs l hl w
        simp only [List.mapM_cons, Sem.run_bind, (hE.ti _ _ ht).2.1 w, Result.andThen_ok, Sem.run_pure]
        rw [ih]
        rfl

theorem ex_build (hE : EnvOK P E) (h : HR ρ s w) {t : TypeId} {ps qs : Array (Nat × Value)} (hq : F2 (fun p q => p.1 = q.1 ∧ VR ρ p.2 q.2) ps.toList qs.toList) {ti : TI} (ht : E.ti t = some ti)
    {l : List Value} (hx : (match ti.u with
      | .struct fields => match places E fields.toList with
        | none => none
        | some pl => fillL (pl[·]?) ti.zero.cells ps.toList
      | .array _ elem => match E.ti elem with
        | none => none
        | some te => fillL (fun i => some (i * te.size, te.size)) ti.zero.cells ps.toList
      | _ => none) = some l) :
    Does P E ρ w s (.value (.agg ⟨l⟩)) (do pure (.value (← Instr.build t qs))) := by
  obtain ⟨hu, _, hz, hcl, _, _, _⟩ := hE.ti t ti ht
  have hzz := closed_VR (ρ := ρ) 4 _ hcl
  have hd : data ti.zero = true := by cases hv : ti.zero <;> first | rfl | (rw [hv] at hcl; simp [closed] at hcl)
  have hcells := hzz.cells hd
  split at hx
  · rename_i fields hfu
    split at hx
    · cases hx
    · rename_i pl hpl
      obtain ⟨d', hd', hl⟩ := fillL_ok hcells hq hx
      refine does_value (u := .agg d') h ?_ (VR.agg' (by simpa using hl))
      have hpm := places_ok hE fields.toList pl hpl w
      simp only [Instr.build, Sem.run_bind, hz, Result.andThen_ok, hu, hfu, Array.mapM_eq_mapM_toList, Sem.run_map, hpm]
      have : (fun i : Nat => (List.toArray pl)[i]?) = fun i : Nat => pl[i]? := by funext i; simp
      rw [this, hd']
      rfl
  · rename_i n elem hfu
    split at hx
    · cases hx
    · rename_i te hte
      obtain ⟨d', hd', hl⟩ := fillL_ok hcells hq hx
      refine does_value (u := .agg d') h ?_ (VR.agg' (by simpa using hl))
      simp only [Instr.build, Sem.run_bind, hz, Result.andThen_ok, hu, hfu, (hE.ti _ _ hte).2.1 w]
      rw [hd']
      rfl
  · cases hx

theorem reps_length (z : List Value) : ∀ n, (reps z n).length = n * z.length
  | 0 => by simp [reps]
  | n + 1 => by simp [reps, reps_length z n, Nat.add_mul]; omega
theorem reps_get (z : List Value) (hz : 0 < z.length) : ∀ (n i : Nat), i < n * z.length → (reps z n)[i]? = z[i % z.length]?
  | 0, i, h => by simp at h
  | n + 1, i, h => by
    simp only [reps]
    by_cases hi : i < z.length
    · rw [List.getElem?_append_left hi, Nat.mod_eq_of_lt hi]
    · rw [List.getElem?_append_right (by omega), reps_get z hz n (i - z.length) (by rw [Nat.add_mul] at h; omega)]
      congr 1
      rw [← Nat.mod_eq_sub_mod (by omega)]
theorem reps_eq (z : Array Value) (n m : Nat) (hm : z.size = m) : ((Array.range (n * m)).map (z[· % z.size]!)) = (reps z.toList n).toArray := by
  subst hm
  apply Array.ext'
  apply List.ext_getElem?
  intro i
  simp only [Array.toList_map, Array.toList_range, List.getElem?_map]
  by_cases hi : i < n * z.size
  · have hz : 0 < z.size := by
      rcases Nat.eq_zero_or_pos z.size with h0 | h0
      · rw [h0] at hi; simp at hi
      · exact h0
    have hlt : i % z.size < z.size := Nat.mod_lt _ hz
    rw [reps_get z.toList (by simpa using hz) n i (by simpa using hi)]
    simp [hi, hlt]
  · have : (reps z.toList n).length = n * z.size := by rw [reps_length]; simp
    rw [List.getElem?_eq_none (by simp; omega), List.getElem?_eq_none (by omega)]
    rfl
theorem reps_VL {z z2 : List Value} (h : VL ρ z z2) : ∀ n, VL ρ (reps z n) (reps z2 n)
  | 0 => .nil
  | n + 1 => h.append (reps_VL h n)

theorem slice_new_VR {ρ' : Ren} {id len cap : Nat} {r : RB} (hr : ρ' id = some r) (hs : r.sh = 0) : VR ρ' (.slice (some ⟨id, 0, none⟩) len cap) (.slice (some ⟨r.blk, 0, none⟩) len cap) := by
  have := VR.slice (ρ := ρ') (b := id) (o := 0) (l := len) (c := cap) hr
  rw [hs] at this
  exact this

theorem ex_buildSlice (hE : EnvOK P E) (h : HR ρ s w) {t elem : TypeId} {len : Nat} {ps qs : Array (Nat × Value)} (hq : F2 (fun p q => p.1 = q.1 ∧ VR ρ p.2 q.2) ps.toList qs.toList) {ti te : TI} (ht : E.ti t = some ti) (hu : ti.u = .slice elem)
    (hte : E.ti elem = some te) (hsm : len * te.size ≤ 65536) (hzs : te.zero.cells.size = te.size) {l : List Value} (hf : fillL (fun i => some (i * te.size, te.size)) ⟨reps te.zero.cells.toList len⟩ ps.toList = some l)
    {id : Nat} (hn : new s (.cells l elem) = some (id, s')) :
    Does P E ρ w s' (.value (.slice (some ⟨id, 0, none⟩) len len)) (do pure (.value (← Instr.buildSlice t len qs))) := by
  have hut := (hE.ti t ti ht).1
  rw [hu] at hut
  obtain ⟨_, hsz, hz, hcl, _, _, _⟩ := hE.ti elem te hte
  have hzz := closed_VR (ρ := ρ) 4 _ hcl
  have hd : data te.zero = true := by cases hv : te.zero <;> first | rfl | (rw [hv] at hcl; simp [closed] at hcl)
  have hcells := hzz.cells hd
  obtain ⟨d', hd', hl⟩ := fillL_ok (c := ⟨reps te.zero.cells.toList len⟩) (d := ⟨reps te.zero.cells.toList len⟩) (by simpa using reps_VL hcells len) hq hf
  obtain ⟨r, b1, b2, b3, b4, b5, b6⟩ := newCells_ok (e2 := elem) h hn hl
  refine ⟨_, .value (.slice (some ⟨w.heap.size, 0, none⟩) len len), _, ?_, ?_, b5, b6⟩
  · simp only [Instr.buildSlice, Sem.run_bind, hut, Result.andThen_ok, hsz]
    rw [if_neg (by omega)]
    by_cases h0 : len * te.size = 0
    · have he : reps te.zero.cells.toList len = [] := by
        apply List.eq_nil_of_length_eq_zero
        rw [reps_length]; simpa [hzs] using h0
      simp only [h0, if_true, Sem.run_bind, Sem.run_pure, Result.andThen_ok]
      rw [he] at hd'
      have : (Array.range 0).map (fun x => (#[] : Array Value)[x % (#[] : Array Value).size]!) = #[] := by simp
      rw [this, hd']
      simp only [newRow, Sem.run_bind, run_newObj, Sem.run_pure, Result.andThen_ok]
      rfl
    · simp only [h0, if_false, Sem.run_bind, hz, Sem.run_pure, Result.andThen_ok]
      rw [reps_eq te.zero.cells len te.size hzs, hd']
      simp only [newRow, Sem.run_bind, run_newObj, Sem.run_pure, Result.andThen_ok]
      rfl
  · have := slice_new_VR (len := len) (cap := len) b4 b2
    rw [b1] at this
    exact this

theorem ex_makeSlice (hE : EnvOK P E) (h : HR ρ s w) {t elem : TypeId} {len cap : Int} {k1 k2 : IntKind} {ti te : TI} (ht : E.ti t = some ti) (hu : ti.u = .slice elem) (hte : E.ti elem = some te)
    (h0 : 0 ≤ len) (h1 : len ≤ cap) (h2 : cap ≤ 65536) (h3 : te.bytes ≤ 65536) (hzs : te.zero.cells.size = te.size) {id : Nat} (hn : new s (.cells (reps te.zero.cells.toList cap.toNat) elem) = some (id, s')) :
    Does P E ρ w s' (.value (.slice (some ⟨id, 0, none⟩) len.toNat cap.toNat)) (do pure (.value (← Instr.makeSlice t (.int k1 len) (.int k2 cap)))) := by
  have hut := (hE.ti t ti ht).1
  rw [hu] at hut
  obtain ⟨_, hsz, hz, hcl, ⟨ei, hei, hb⟩, _, _⟩ := hE.ti elem te hte
  have hzz := closed_VR (ρ := ρ) 4 _ hcl
  have hd : data te.zero = true := by cases hv : te.zero <;> first | rfl | (rw [hv] at hcl; simp [closed] at hcl)
  have hcells := hzz.cells hd
  obtain ⟨r, b1, b2, b3, b4, b5, b6⟩ := newCells_ok (e2 := elem) h hn (reps_VL hcells cap.toNat)
  refine ⟨_, .value (.slice (some ⟨w.heap.size, 0, none⟩) len.toNat cap.toNat), _, ?_, ?_, b5, b6⟩
  · have wl : IntKind.i64.wrap len = len := by simp [IntKind.wrap, IntKind.bits, IntKind.signed]; omega
    have wc : IntKind.i64.wrap cap = cap := by simp [IntKind.wrap, IntKind.bits, IntKind.signed]; omega
    have hbc : ∀ n : Int, 0 ≤ n → n ≤ 65536 → ¬ ((ei.bytes : Int) * n > 2 ^ 48) := fun n hn0 hn1 => by
      rw [hb]
      have : (te.bytes : Int) * n ≤ 65536 * 65536 := Int.mul_le_mul (by omega) hn1 hn0 (by omega)
      omega
    have hc0 := hbc cap (by omega) h2
    simp only [Instr.makeSlice, Sem.run_bind, hut, Result.andThen_ok, asInt, asIntOf, Sem.run_pure, hei, wl, wc]
    rw [if_neg (by simp only [Bool.or_eq_true, decide_eq_true_eq, not_or]; omega)]
    simp only [Sem.run_bind, run_askRoom, Result.andThen_ok, hsz]
    by_cases hz0 : cap.toNat * te.size = 0
    · have he : reps te.zero.cells.toList cap.toNat = [] := by
        apply List.eq_nil_of_length_eq_zero
        rw [reps_length]; simpa [hzs] using hz0
      simp only [hz0, if_true, Sem.run_pure, Result.andThen_ok, newRow, Sem.run_bind, run_newObj, he]
      have : (Array.range 0).map (fun x => (#[] : Array Value)[x % (#[] : Array Value).size]!) = #[] := by simp
      rw [this]
      rfl
    · simp only [hz0, if_false, Sem.run_bind, hz, Sem.run_pure, Result.andThen_ok, newRow, run_newObj]
      rw [reps_eq te.zero.cells cap.toNat te.size hzs]
      rfl
  · have := slice_new_VR (len := len.toNat) (cap := cap.toNat) b4 b2
    rw [b1] at this
    exact this

theorem ex_makeMap (h : HR ρ s w) {t : TypeId} {id : Nat} (hn : new s (.map [] 0) = some (id, s')) : Does P E ρ w s' (.value (.map (some id))) (do pure (.value (← Instr.makeMap t none))) := by
  obtain ⟨b1, b5, b6⟩ := new_ok h hn (.map #[] 0) 0 (fun s1 => ⟨#[], pushed_new .., .nil⟩)
  refine ⟨_, .value (.map (some w.heap.size)), _, ?_, ?_, b5, b6⟩
  · simp only [Instr.makeMap, Sem.run_bind, Sem.run_pure, Result.andThen_ok, run_newObj]
    rfl
  · rw [b1]
    exact VR.map (r := ⟨w.heap.size, 0, none, 0, 0, 0, 0⟩) (Ren.ext_same ..)

theorem ex_load (hE : EnvOK P E) (h : HR ρ s w) {t : TypeId} {a a2 v : Value} (ha : VR ρ a a2) (hl : Can.loadVar E s t a = some v) : Does P E ρ w s (.value v) (do pure (.value (← Instr.loadAt t a2))) := by
  obtain ⟨ad, u, rfl, hrun, hv⟩ := loadVar_ok hE h ha hl
  exact does_value h (by simp [Instr.loadAt, Instr.sureAddr, hrun]) hv

theorem ex_store (hE : EnvOK P E) (h : HR ρ s w) {t : TypeId} {a a2 v u : Value} (ha : VR ρ a a2) (hv : VR ρ v u) (hl : Can.storeVar E s t a v = some s') : Does P E ρ w s' (.value undef) (do Instr.storeAt t a2 u; pure .skip) := by
  obtain ⟨ad, w', rfl, hrun, k1, k2⟩ := storeVar_ok hE h ha hv hl
  exact ⟨ρ, .skip, w', by simp [Instr.storeAt, Instr.sureAddr, hrun], VR.undef, k1, k2⟩

end Go.Can

/-
  THE CANONICAL INTERPRETER'S SOUNDNESS, eleventh part: the operations, more.
-/
namespace Go.Can
variable {P : Program} {E : Env} {ρ : Ren} {s s' : St} {w : World} {nx : Nx}

theorem part_ok (hE : EnvOK P E) {t : TypeId} {cs : List Value} {ds : Array Value} {off : Nat} {v : Value} (hc : VL ρ cs ds.toList) (hp : partV E t cs off = some v) :
    ∃ u, (part t ds off).run P w = .ok u w ∧ VR ρ v u := by
  unfold partV at hp
  split at hp
  · cases hp
  · rename_i ti ht
    have hagg := isAgg_ok hE ht w
    split at hp
    · rename_i ha
      cases hp
      refine ⟨.agg (ds.extract off (off + ti.size)), ?_, VR.agg' ?_⟩
      · simp [part, hagg, ha, (hE.ti t ti ht).2.1 w]
      · have := (hc.drop off).take ti.size
        rw [Array.toList_extract]
        simpa [List.take_drop] using this
    · rename_i ha
      obtain ⟨u, hu, hvu⟩ := hc.get off v hp
      refine ⟨u, ?_, hvu⟩
      have : ds[off]? = some u := by simpa using hu
      simp [part, hagg, ha, this]

theorem ex_field (hE : EnvOK P E) (h : HR ρ s w) {t : TypeId} {ti : TI} (ht : E.ti t = some ti) {fields : Array Field} (hu : ti.u = .struct fields) {cs ds : Array Value} (hc : VL ρ cs.toList ds.toList) {f : Nat} {fd : Field} (hf : fields[f]? = some fd)
    {v : Value} (hp : partV E fd.type cs.toList fd.offset = some v) : Does P E ρ w s (.value v) (do pure (.value (← Instr.field t (.agg ds) f))) := by
  obtain ⟨u, hrun, hv⟩ := part_ok (w := w) hE hc hp
  have hut := (hE.ti t ti ht).1
  rw [hu] at hut
  exact does_value h (by simp [Instr.field, hut, hf, asAgg, hrun]) hv

theorem ex_fieldAddr (hE : EnvOK P E) (h : HR ρ s w) {t : TypeId} {ti : TI} (ht : E.ti t = some ti) {fields : Array Field} (hu : ti.u = .struct fields) {b o : Nat} {a2 : Value} (ha : VR ρ (.pointer (some ⟨b, o, none⟩)) a2) {f : Nat} {fd : Field} (hf : fields[f]? = some fd)
    {tf : TI} (htf : E.ti fd.type = some tf) (hz : tf.size ≠ 0) : Does P E ρ w s (.value (.pointer (some ⟨b, o + fd.offset, none⟩))) (do pure (.value (← Instr.fieldAt t a2 f))) := by
  obtain ⟨r, hr, rfl⟩ := ha.ptr_inv
  have hut := (hE.ti t ti ht).1
  rw [hu] at hut
  refine does_value (u := .pointer (some ⟨r.blk, r.sh + (o + fd.offset), none⟩)) h ?_ (.ptr hr)
  simp [Instr.fieldAt, hut, hf, Instr.sureAddr, fieldPlace, (hE.ti _ _ htf).2.1 w, hz, add_eq, Nat.add_assoc]

theorem ex_indexAddr_slice (hE : EnvOK P E) (h : HR ρ s w) {t elem : TypeId} {ti te : TI} (ht : E.ti t = some ti) (hu : ti.u = .slice elem) (hte : E.ti elem = some te) {b o len cap : Nat} {a2 : Value} (ha : VR ρ (.slice (some ⟨b, o, none⟩) len cap) a2)
    {k : IntKind} {i : Int} (h0 : 0 ≤ i) (h1 : i < len) : Does P E ρ w s (.value (.pointer (some ⟨b, o + i.toNat * te.size, none⟩))) (do pure (.value (← Instr.indexAt t a2 (.int k i)))) := by
  obtain ⟨r, o2, c2, hr, rfl, hcase⟩ := ha.slice_inv
  have hut := (hE.ti t ti ht).1
  rw [hu] at hut
  have ho : o2 = r.sh + o := by
    rcases hcase with ⟨h2, _⟩ | ⟨h2, _⟩ | ⟨h2, _⟩
    · exact h2
    · exact h2
    · omega
  subst ho
  refine does_value (u := .pointer (some ⟨r.blk, r.sh + (o + i.toNat * te.size), none⟩)) h ?_ (.ptr hr)
  simp [Instr.indexAt, asIntOf, hut, h0, h1, (hE.ti _ _ hte).2.1 w, add_eq, Nat.add_assoc]

theorem ex_indexAddr_array (hE : EnvOK P E) (h : HR ρ s w) {t elem : TypeId} {n : Nat} {ti te : TI} (ht : E.ti t = some ti) (hu : ti.u = .array n elem) (hte : E.ti elem = some te) {b o : Nat} {a2 : Value} (ha : VR ρ (.pointer (some ⟨b, o, none⟩)) a2)
    {k : IntKind} {i : Int} (h0 : 0 ≤ i) (h1 : i < n) : Does P E ρ w s (.value (.pointer (some ⟨b, o + i.toNat * te.size, none⟩))) (do pure (.value (← Instr.indexAt t a2 (.int k i)))) := by
  obtain ⟨r, hr, rfl⟩ := ha.ptr_inv
  have hut := (hE.ti t ti ht).1
  rw [hu] at hut
  refine does_value (u := .pointer (some ⟨r.blk, r.sh + (o + i.toNat * te.size), none⟩)) h ?_ (.ptr hr)
  simp [Instr.indexAt, asIntOf, hut, h0, h1, (hE.ti _ _ hte).2.1 w, add_eq, Nat.add_assoc, Instr.sureAddr]

theorem ex_index_array (hE : EnvOK P E) (h : HR ρ s w) {t elem : TypeId} {n : Nat} {ti te : TI} (ht : E.ti t = some ti) (hu : ti.u = .array n elem) (hte : E.ti elem = some te) {cs ds : Array Value} (hc : VL ρ cs.toList ds.toList)
    {k : IntKind} {i : Int} (h0 : 0 ≤ i) (h1 : i < n) {v : Value} (hp : partV E elem cs.toList (i.toNat * te.size) = some v) : Does P E ρ w s (.value v) (do pure (.value (← Instr.index t (.agg ds) (.int k i)))) := by
  obtain ⟨u, hrun, hv⟩ := part_ok (w := w) hE hc hp
  have hut := (hE.ti t ti ht).1
  rw [hu] at hut
  exact does_value h (by simp [Instr.index, asIntOf, hut, h0, h1, (hE.ti _ _ hte).2.1 w, hrun]) hv

theorem ex_index_string (hE : EnvOK P E) (h : HR ρ s w) {t : TypeId} {ti : TI} (ht : E.ti t = some ti) (hu : ti.u = .string) {z : ByteArray} {k : IntKind} {i : Int} {b : UInt8} (hb : (if 0 ≤ i then z[i.toNat]? else none) = some b) :
    Does P E ρ w s (.value (.int .u8 b.toNat)) (do pure (.value (← Instr.index t (.string z) (.int k i)))) := by
  have hut := (hE.ti t ti ht).1
  rw [hu] at hut
  exact does_value h (by simp only [Instr.index, asIntOf, Sem.run_bind, Sem.run_pure, Result.andThen_ok, hut, hb]) (.int _ _)

/-! ### slice expressions -/
theorem bnd_ok {v u : Value} {y n : Nat} (hv : VR ρ v u) (hb : bnd v y = some n) (c : BoundsCode) : n ≤ y ∧ (Instr.sliceBound u y c).run P w = .ok n w ∧ ∃ k i, u = .int k i ∧ 0 ≤ i ∧ i.toNat = n := by
  unfold bnd at hb
  split at hb
  · rename_i k i
    have := hv.int_inv
    subst this
    split at hb
    · rename_i h0 h1
      rw [decide_eq_true_eq] at h0 h1
      rw [fN_eq] at hb
      cases hb
      exact ⟨by omega, by simp [Instr.sliceBound, asIntOf, h0, h1], k, i, rfl, h0, rfl⟩
    · cases hb
  · cases hb
/-- 'y' may be larger in the real run -/
theorem bnd_ok' {v u : Value} {y y2 n : Nat} (hv : VR ρ v u) (hb : bnd v y = some n) (hy : y ≤ y2) (c : BoundsCode) : (Instr.sliceBound u y2 c).run P w = .ok n w := by
  obtain ⟨h1, _, k, i, rfl, h0, h2⟩ := bnd_ok (P := P) (w := w) hv hb c
  have : i ≤ (y2 : Int) := by omega
  simp [Instr.sliceBound, asIntOf, h0, this, h2]

def capOr : Option Value → Nat → Nat → Nat
  | some _, m, _ => m
  | none, _, c => c
/-- low, high and max, where the real capacity is at least the canonical one -/
theorem bounds3_ok {len cap cap2 l h m : Nat} {lo hi mx lo2 hi2 mx2 : Option Value} (isS : Bool) (hb : bounds3 len cap lo hi mx = some (l, h, m)) (hlo : ∀ v, lo = some v → ∃ u, lo2 = some u ∧ VR ρ v u) (hlo' : lo = none → lo2 = none)
    (hhi : ∀ v, hi = some v → ∃ u, hi2 = some u ∧ VR ρ v u) (hhi' : hi = none → hi2 = none) (hmx : ∀ v, mx = some v → ∃ u, mx2 = some u ∧ VR ρ v u) (hmx' : mx = none → mx2 = none) (hcap : cap ≤ cap2) :
    (Instr.sliceBounds isS len cap2 lo2 hi2 mx2).run P w = .ok (l, h, capOr mx m cap2) w ∧ l ≤ h ∧ (mx = none → m = cap) ∧ m ≤ cap ∧ (h ≤ m ∨ (hi = none ∧ mx = none ∧ h = len)) := by
  unfold bounds3 at hb
  cases mx with
  | some v =>
    obtain ⟨u, rfl, hvu⟩ := hmx v rfl
    simp only at hb
    cases hm : bnd v cap with
    | none => rw [hm] at hb; cases hb
    | some m' =>
      rw [hm] at hb
      simp only at hb
      cases hi with
      | none => simp at hb
      | some vh =>
        obtain ⟨uh, rfl, hvh⟩ := hhi vh rfl
        simp only at hb
        cases hh : bnd vh m' with
        | none => rw [hh] at hb; cases hb
        | some h' =>
          rw [hh] at hb
          simp only at hb
          have km := bnd_ok' (P := P) (w := w) hvu hm hcap (if isS then .slice3Acap else .slice3Alen)
          obtain ⟨e1, kh, _⟩ := bnd_ok (P := P) (w := w) hvh hh .slice3B
          obtain ⟨e0, _, _⟩ := bnd_ok (P := P) (w := w) hvu hm .slice3B
          cases lo with
          | none =>
            have := hlo' rfl
            subst this
            simp at hb
            obtain ⟨rfl, rfl, rfl⟩ := hb
            refine ⟨by simp [capOr, Instr.sliceBounds, km, kh], by omega, (fun hh => by cases hh), e0, .inl e1⟩
          | some vl =>
            obtain ⟨ul, rfl, hvl⟩ := hlo vl rfl
            simp only at hb
            cases hl : bnd vl h' with
            | none => rw [hl] at hb; cases hb
            | some l' =>
              rw [hl] at hb
              simp at hb
              obtain ⟨rfl, rfl, rfl⟩ := hb
              obtain ⟨e2, kl, _⟩ := bnd_ok (P := P) (w := w) hvl hl .slice3C
              exact ⟨by simp [capOr, Instr.sliceBounds, km, kh, kl], e2, (fun hh => by cases hh), e0, .inl e1⟩
  | none =>
    have := hmx' rfl
    subst this
    simp only at hb
    cases hi with
    | none =>
      have := hhi' rfl
      subst this
      simp only at hb
      cases lo with
      | none =>
        have := hlo' rfl
        subst this
        simp at hb
        obtain ⟨rfl, rfl, rfl⟩ := hb
        exact ⟨by simp [capOr, Instr.sliceBounds], Nat.zero_le _, fun _ => rfl, Nat.le_refl _, .inr ⟨rfl, rfl, rfl⟩⟩
      | some vl =>
        obtain ⟨ul, rfl, hvl⟩ := hlo vl rfl
        simp only at hb
        cases hl : bnd vl len with
        | none => rw [hl] at hb; cases hb
        | some l' =>
          rw [hl] at hb
          simp at hb
          obtain ⟨rfl, rfl, rfl⟩ := hb
          obtain ⟨e2, kl, _⟩ := bnd_ok (P := P) (w := w) hvl hl .sliceB
          exact ⟨by simp [capOr, Instr.sliceBounds, kl], e2, fun _ => rfl, Nat.le_refl _, .inr ⟨rfl, rfl, rfl⟩⟩
    | some vh =>
      obtain ⟨uh, rfl, hvh⟩ := hhi vh rfl
      simp only at hb
      cases hh : bnd vh cap with
      | none => rw [hh] at hb; cases hb
      | some h' =>
        rw [hh] at hb
        simp only at hb
        have kh := bnd_ok' (P := P) (w := w) hvh hh hcap (if isS then .sliceAcap else .sliceAlen)
        obtain ⟨e1, _, _⟩ := bnd_ok (P := P) (w := w) hvh hh .slice3B
        cases lo with
        | none =>
          have := hlo' rfl
          subst this
          simp at hb
          obtain ⟨rfl, rfl, rfl⟩ := hb
          exact ⟨by simp [capOr, Instr.sliceBounds, kh], Nat.zero_le _, fun _ => rfl, Nat.le_refl _, .inl e1⟩
        | some vl =>
          obtain ⟨ul, rfl, hvl⟩ := hlo vl rfl
          simp only at hb
          cases hl : bnd vl h' with
          | none => rw [hl] at hb; cases hb
          | some l' =>
            rw [hl] at hb
            simp at hb
            obtain ⟨rfl, rfl, rfl⟩ := hb
            obtain ⟨e2, kl, _⟩ := bnd_ok (P := P) (w := w) hvl hl .sliceB
            exact ⟨by simp [capOr, Instr.sliceBounds, kh, kl], e2, fun _ => rfl, Nat.le_refl _, .inl e1⟩

end Go.Can

/-
  THE CANONICAL INTERPRETER'S SOUNDNESS, twelfth part: slice expressions, maps.
-/
namespace Go.Can
variable {P : Program} {E : Env} {ρ : Ren} {s s' : St} {w : World} {nx : Nx}

/-- what is known of the bounds of a slice expression -/
structure Opts (ρ : Ren) (a b : Option Value) : Prop where
  some : ∀ v, a = some v → ∃ u, b = some u ∧ VR ρ v u
  none : a = none → b = none

theorem ex_slice_string (hE : EnvOK P E) (h : HR ρ s w) {t : TypeId} {ti : TI} (ht : E.ti t = some ti) (hu : ti.u = .string) {z : ByteArray} {lo hi lo2 hi2 : Option Value} (hlo : Opts ρ lo lo2) (hhi : Opts ρ hi hi2) {l hh m : Nat}
    (hb : bounds3 z.size z.size lo hi none = some (l, hh, m)) : Does P E ρ w s (.value (.string (z.extract l hh))) (do pure (.value (← Instr.sliceAt t (.string z) lo2 hi2 none))) := by
  have hut := (hE.ti t ti ht).1
  rw [hu] at hut
  obtain ⟨k1, _⟩ := bounds3_ok (P := P) (w := w) (mx2 := none) false hb hlo.some hlo.none hhi.some hhi.none (fun v hv => by cases hv) (fun _ => rfl) (Nat.le_refl _)
  exact does_value h (by simp [Instr.sliceAt, Instr.slice, hut, k1]) (.string _)

theorem ex_slice_nil (hE : EnvOK P E) (h : HR ρ s w) {t elem : TypeId} {ti te : TI} (ht : E.ti t = some ti) (hu : ti.u = .slice elem) (hte : E.ti elem = some te) {len cap : Nat} {lo hi mx lo2 hi2 mx2 : Option Value} (hlo : Opts ρ lo lo2) (hhi : Opts ρ hi hi2) (hmx : Opts ρ mx mx2) {l hh m : Nat}
    (hb : bounds3 len cap lo hi mx = some (l, hh, m)) : Does P E ρ w s (.value (.slice none (hh - l) (m - l))) (do pure (.value (← Instr.sliceAt t (.slice none len cap) lo2 hi2 mx2))) := by
  have hut := (hE.ti t ti ht).1
  rw [hu] at hut
  obtain ⟨k1, _, k3, _⟩ := bounds3_ok (P := P) (w := w) true hb hlo.some hlo.none hhi.some hhi.none hmx.some hmx.none (Nat.le_refl _)
  have hm : capOr mx m cap = m := by cases mx with | none => exact (k3 rfl).symm | some _ => rfl
  rw [hm] at k1
  exact does_value h (by simp [Instr.sliceAt, Instr.slice, hut, k1, (hE.ti _ _ hte).2.1 w]) (.nils _ _)

theorem ex_slice (hE : EnvOK P E) (h : HR ρ s w) {t elem : TypeId} {ti te : TI} (ht : E.ti t = some ti) (hu : ti.u = .slice elem) (hte : E.ti elem = some te) {b o len cap : Nat} {x2 : Value} (hx : VR ρ (.slice (some ⟨b, o, none⟩) len cap) x2)
    {lo hi mx lo2 hi2 mx2 : Option Value} (hlo : Opts ρ lo lo2) (hhi : Opts ρ hi hi2) (hmx : Opts ρ mx mx2) {l hh m : Nat} (hb : bounds3 len cap lo hi mx = some (l, hh, m)) {k : Blk} (hk : s.heap.get b = some k) {o' : Nat}
    (ho : (k.fam = none ∧ o' = if m = l then o else o + l * te.size) ∨ ((∃ f, k.fam = some f) ∧ k.esz = te.size ∧ hh ≤ m ∧ o' = if mx.isSome then (if m = l then o else o + l * te.size) else o + l * te.size)) :
    Does P E ρ w s (.value (.slice (some ⟨b, o', none⟩) (hh - l) (m - l))) (do pure (.value (← Instr.sliceAt t x2 lo2 hi2 mx2))) := by
  have hut := (hE.ti t ti ht).1
  rw [hu] at hut
  obtain ⟨r, o2, c2, hr, rfl, hcase⟩ := hx.slice_inv
  obtain ⟨r', hr', q1, q2, q3, hor⟩ := h.live b k hk
  rw [hr] at hr'; cases hr'
  have run : ∀ cap2, c2 = cap2 → cap ≤ cap2 → ∃ m2, m2 = capOr mx m cap2 ∧ l ≤ hh ∧ (mx = none → m = cap) ∧ m ≤ cap ∧
      (do pure (Next.value (← Instr.sliceAt t (.slice (some ⟨r.blk, o2, none⟩) len c2) lo2 hi2 mx2)) : Sem Next).run P w = .ok (.value (.slice (some (if m2 = l then ⟨r.blk, o2, none⟩ else ⟨r.blk, o2 + l * te.size, none⟩)) (hh - l) (m2 - l))) w := by
    intro cap2 hc hle
    subst hc
    obtain ⟨k1, k2, k3, k4, _⟩ := bounds3_ok (P := P) (w := w) true hb hlo.some hlo.none hhi.some hhi.none hmx.some hmx.none hle
    refine ⟨_, rfl, k2, k3, k4, ?_⟩
    simp only [Instr.sliceAt, Instr.slice, Sem.run_bind, hut, k1, Result.andThen_ok, (hE.ti _ _ hte).2.1 w, Sem.run_pure]
    split <;> simp [add_eq]
  rcases ho with ⟨hf, rfl⟩ | ⟨⟨f, hf⟩, hes, hhm, rfl⟩
  · rcases hcase with ⟨rfl, rfl⟩ | ⟨_, ⟨f, h1⟩, _⟩ | ⟨_, _, _, f, h1⟩
    · obtain ⟨m2, rfl, k2, k3, _, hrun⟩ := run _ rfl (Nat.le_refl _)
      have hm : capOr mx m c2 = m := by cases mx with | none => exact (k3 rfl).symm | some _ => rfl
      rw [hm] at hrun
      refine ⟨ρ, _, w, hrun, ?_, h, Ev.refl ρ w⟩
      simp only [NxR]
      split
      · exact .slice hr
      · have := VR.slice (ρ := ρ) (b := b) (o := o + l * te.size) (l := hh - l) (c := m - l) hr
        rw [← Nat.add_assoc] at this
        exact this
    · rw [q1, h1] at hf; cases hf
    · rw [q1, h1] at hf; cases hf
  · have hrf : r.fam = some f := q1.symm.trans hf
    have hes' : r.esz = te.size := q3.symm.trans hes
    have hpos := (h.fam b r f hr hrf).2
    rcases hcase with ⟨rfl, rfl⟩ | ⟨rfl, _, a1, a2⟩ | ⟨rfl, rfl, rfl, _⟩
    · obtain ⟨m2, rfl, k2, k3, _, hrun⟩ := run _ rfl (Nat.le_refl _)
      have hm : capOr mx m c2 = m := by cases mx with | none => exact (k3 rfl).symm | some _ => rfl
      rw [hm] at hrun
      refine ⟨ρ, _, w, hrun, ?_, h, Ev.refl ρ w⟩
      simp only [NxR]
      cases mx with
      | some _ =>
        simp only [Option.isSome_some, if_true]
        split
        · exact .slice hr
        · have := VR.slice (ρ := ρ) (b := b) (o := o + l * te.size) (l := hh - l) (c := m - l) hr
          rw [← Nat.add_assoc] at this
          exact this
      | none =>
        simp only [Option.isSome_none, Bool.false_eq_true, if_false]
        split
        · rename_i hml
          have e1 : hh - l = 0 := by omega
          have e2 : m - l = 0 := by omega
          rw [e1, e2]
          exact .empty hr hrf
        · have := VR.slice (ρ := ρ) (b := b) (o := o + l * te.size) (l := hh - l) (c := m - l) hr
          rw [← Nat.add_assoc] at this
          exact this
    · have hcc : cap ≤ c2 := by
        have h2 : cap * r.esz ≤ c2 * r.esz := by omega
        exact Nat.le_of_mul_le_mul_right h2 hpos.1
      obtain ⟨m2, rfl, k2, k3, k4, hrun⟩ := run _ rfl hcc
      refine ⟨ρ, _, w, hrun, ?_, h, Ev.refl ρ w⟩
      cases mx with
      | some x =>
        show VR ρ (.slice (some ⟨b, (if m = l then o else o + l * te.size), none⟩) (hh - l) (m - l)) (.slice (some (if m = l then ⟨r.blk, r.sh + o, none⟩ else ⟨r.blk, r.sh + o + l * te.size, none⟩)) (hh - l) (m - l))
        by_cases hml : m = l
        · rw [if_pos hml, if_pos hml]
          exact .slice hr
        · rw [if_neg hml, if_neg hml]
          have := VR.slice (ρ := ρ) (b := b) (o := o + l * te.size) (l := hh - l) (c := m - l) hr
          rw [← Nat.add_assoc] at this
          exact this
      | none =>
        have hmc := k3 rfl
        subst hmc
        show VR ρ (.slice (some ⟨b, o + l * te.size, none⟩) (hh - l) (m - l)) (.slice (some (if c2 = l then ⟨r.blk, r.sh + o, none⟩ else ⟨r.blk, r.sh + o + l * te.size, none⟩)) (hh - l) (c2 - l))
        by_cases hml : c2 = l
        · rw [if_pos hml]
          have e1 : hh - l = 0 := by omega
          have e2 : m - l = 0 := by omega
          have e3 : c2 - l = 0 := by omega
          rw [e1, e2, e3]
          exact .empty hr hrf
        · rw [if_neg hml]
          have hlm : l ≤ m := by omega
          have := VR.tail (ρ := ρ) (b := b) (o := o + l * te.size) (l := hh - l) (c := m - l) (c2 := c2 - l) hr hrf
            (by rw [← a1, hes', Nat.add_assoc, ← Nat.add_mul]; congr 2; omega) (by rw [← a2, hes', Nat.add_assoc, ← Nat.add_mul]; congr 2; omega)
          rw [← Nat.add_assoc] at this
          exact this
    · obtain ⟨m2, rfl, k2, k3, k4, hrun⟩ := run _ rfl (Nat.le_refl _)
      have hm : capOr mx m 0 = m := by cases mx with | none => exact (k3 rfl).symm | some _ => rfl
      rw [hm] at hrun
      have e0 : m = 0 := by omega
      have e1 : hh = 0 := by omega
      have e2 : l = 0 := by omega
      subst e0 e1 e2
      refine ⟨ρ, _, w, hrun, ?_, h, Ev.refl ρ w⟩
      simp only [NxR, if_true]
      exact .empty hr hrf

theorem ex_slice_array (hE : EnvOK P E) (h : HR ρ s w) {t elem : TypeId} {n : Nat} {ti te : TI} (ht : E.ti t = some ti) (hu : ti.u = .array n elem) (hte : E.ti elem = some te) {b o : Nat} {x2 : Value} (hx : VR ρ (.pointer (some ⟨b, o, none⟩)) x2)
    {lo hi mx lo2 hi2 mx2 : Option Value} (hlo : Opts ρ lo lo2) (hhi : Opts ρ hi hi2) (hmx : Opts ρ mx mx2) {l hh m : Nat} (hb : bounds3 n n lo hi mx = some (l, hh, m)) :
    Does P E ρ w s (.value (.slice (some ⟨b, (if m = l then o else o + l * te.size), none⟩) (hh - l) (m - l))) (do pure (.value (← Instr.sliceAt t x2 lo2 hi2 mx2))) := by
  obtain ⟨r, hr, rfl⟩ := hx.ptr_inv
  have hut := (hE.ti t ti ht).1
  rw [hu] at hut
  obtain ⟨k1, _, k3, _⟩ := bounds3_ok (P := P) (w := w) false hb hlo.some hlo.none hhi.some hhi.none hmx.some hmx.none (Nat.le_refl _)
  have hm : capOr mx m n = m := by cases mx with | none => exact (k3 rfl).symm | some _ => rfl
  rw [hm] at k1
  refine ⟨ρ, .value (.slice (some (if m = l then ⟨r.blk, r.sh + o, none⟩ else ⟨r.blk, r.sh + o + l * te.size, none⟩)) (hh - l) (m - l)), w, ?_, ?_, h, Ev.refl ρ w⟩
  · simp only [Instr.sliceAt, Instr.sureAddr, Sem.run_bind, hut, k1, Result.andThen_ok, (hE.ti _ _ hte).2.1 w, Sem.run_pure]
    split <;> simp [add_eq]
  · simp only [NxR]
    split
    · exact .slice hr
    · have := VR.slice (ρ := ρ) (b := b) (o := o + l * te.size) (l := hh - l) (c := m - l) hr
      rw [← Nat.add_assoc] at this
      exact this

end Go.Can
