/- equality, maps, builtins. -/
import Derived.Test.YtfiflkjniodbeaaGreatDoorCan3
/-
  THE CANONICAL INTERPRETER'S SOUNDNESS, thirteenth part: equality, maps.
-/
namespace Go.Can
variable {P : Program} {E : Env} {ρ : Ren} {s s' : St} {w : World} {nx : Nx}

theorem ba_beq (a b : ByteArray) : (a == b) = (a.data == b.data) := by cases a; cases b; rfl
theorem eqV_VR : ∀ (n : Nat) {x y x2 y2 : Value} {r : Bool}, VR ρ x x2 → VR ρ y y2 → eqV n x y = some r → eqV n x2 y2 = some r
  | 0, _, _, _, _, _, _, _, h => by simp [eqV] at h
  | n + 1, x, y, x2, y2, r, hx, hy, h => by
    have L : ∀ (a b a2 b2 : List Value) (r : Bool), VL ρ a a2 → VL ρ b b2 → eqV.eqL n a b = some r → eqV.eqL n a2 b2 = some r := by
      intro a
      induction a with
      | nil =>
        intro b a2 b2 r ha hb h
        cases ha
        cases b with
        | nil => cases hb; exact h
        | cons _ _ => simp [eqV.eqL] at h
      | cons u a ih =>
        intro b a2 b2 r ha hb h
        cases ha with
        | cons hu ha =>
          cases b with
          | nil => simp [eqV.eqL] at h
          | cons v b =>
            cases hb with
            | cons hv hb =>
              simp only [eqV.eqL] at h ⊢
              cases he : eqV n u v with
              | none => rw [he] at h; cases h
              | some q =>
                rw [eqV_VR n hu hv he]
                rw [he] at h
                cases q with
                | true => exact ih b _ _ r ha hb h
                | false => exact h
    cases x with
    | bool a => cases y with
      | bool b => rw [hx.bool_inv, hy.bool_inv]; exact h
      | _ => simp [eqV] at h
    | int j a => cases y with
      | int k b => rw [hx.int_inv, hy.int_inv]; exact h
      | _ => simp [eqV] at h
    | string a => cases y with
      | string b => rw [hx.string_inv, hy.string_inv]; exact h
      | _ => simp [eqV] at h
    | agg a => cases y with
      | agg b =>
        obtain ⟨a2, rfl, ha⟩ := hx.agg_inv
        obtain ⟨b2, rfl, hb⟩ := hy.agg_inv
        simp only [eqV] at h ⊢
        exact L _ _ _ _ r ha hb h
      | _ => simp [eqV] at h
    | _ => simp [eqV] at h

theorem eqV_sameBits : ∀ (n m : Nat) {x y : Value}, n ≤ m → eqV n x y = some true → Instr.sameBits m y x = true
  | 0, _, _, _, _, h => by simp [eqV] at h
  | n + 1, m, x, y, hm, h => by
    obtain ⟨m, rfl⟩ : ∃ m', m = m' + 1 := ⟨m - 1, by omega⟩
    have L : ∀ (a b : List Value), eqV.eqL n a b = some true → a.length = b.length ∧ ((b.zip a).all fun p => Instr.sameBits m p.1 p.2) = true := by
      intro a
      induction a with
      | nil => intro b h; cases b with
        | nil => simp
        | cons _ _ => simp [eqV.eqL] at h
      | cons u a ih =>
        intro b h
        cases b with
        | nil => simp [eqV.eqL] at h
        | cons v b =>
          simp only [eqV.eqL] at h
          cases he : eqV n u v with
          | none => rw [he] at h; cases h
          | some q =>
            rw [he] at h
            cases q with
            | true =>
              obtain ⟨h1, h2⟩ := ih b h
              refine ⟨by simp [h1], ?_⟩
              simp only [List.zip_cons_cons, List.all_cons, h2, Bool.and_true]
              exact eqV_sameBits n m (by omega) he
            | false => cases h
    cases x with
    | bool a => cases y with
      | bool b => simp [eqV] at h; simp [Instr.sameBits, h]
      | _ => simp [eqV] at h
    | int j a => cases y with
      | int k b => simp [eqV] at h; simp [Instr.sameBits, h]
      | _ => simp [eqV] at h
    | string a => cases y with
      | string b => simp [eqV] at h; rw [ba_beq] at h; have := eq_of_beq h; simp [Instr.sameBits, ba_beq, this]
      | _ => simp [eqV] at h
    | agg a => cases y with
      | agg b =>
        simp only [eqV] at h
        obtain ⟨h1, h2⟩ := L _ _ h
        simp only [Instr.sameBits, Bool.and_eq_true]
        exact ⟨by simpa using h1.symm, h2⟩
      | _ => simp [eqV] at h
    | _ => simp [eqV] at h

theorem fit1_VR {z x x2 : Value} (hx : VR ρ x x2) (h : fit1 z x = true) : fit1 z x2 = true := by
  cases z <;> cases x <;> simp only [fit1] at h <;> first
    | (cases h; done)
    | (have := hx.bool_inv; subst this; rfl)
    | (have := hx.int_inv; subst this; exact h)
    | (have := hx.string_inv; subst this; rfl)
theorem fits_VR : ∀ {zs xs xs2 : List Value}, VL ρ xs xs2 → fits zs xs = true → fits zs xs2 = true
  | [], _, _, .nil, _ => rfl
  | [], _, _, .cons _ _, h => by simp [fits] at h
  | z :: zs, _, _, .nil, h => by simp [fits] at h
  | z :: zs, x :: xs, _, .cons hx hl, h => by
    simp only [fits] at h ⊢
    split at h
    · rename_i h1
      rw [fit1_VR hx h1]
      exact fits_VR hl h
    · cases h
theorem eqT_ok (hE : EnvOK P E) {t : TypeId} {x y x2 y2 : Value} {b : Bool} (hx : VR ρ x x2) (hy : VR ρ y y2) (h : eqT E t x y = some b) (xo yo : Operand) (op : BinOp) :
    (Op.equal t x2 y2).run P w = .ok b w ∧ (eqGuard op t xo yo x2 y2).run P w = .ok () w ∧ (∀ k a, x2 ≠ .int k a) ∧ (∀ k a, x2 ≠ .float k a) ∧ (∀ k a c, x2 ≠ .complex k a c) ∧ (∀ a, x2 ≠ .string a) := by
  unfold eqT at h
  have eg : ∀ {u v : Value}, (u ≠ .nilIface ∨ v ≠ .nilIface) → (∀ a b, u = .agg a → v = .agg b → P.eqGuardType P.depth t = false) → (eqGuard op t xo yo u v).run P w = .ok () w := by
    intro u v h1 h2
    cases op <;> first
      | rfl
      | (cases u <;> cases v <;> first
          | rfl
          | (rcases h1 with h1 | h1 <;> exact absurd rfl h1)
          | (rename_i a c
             have := h2 a c rfl rfl
             simp [eqGuard, this]))
  split at h
  · cases h
  · rename_i ti ht
    obtain ⟨hu, _, _, _, _, _, hpl⟩ := hE.ti t ti ht
    obtain ⟨d, hdep⟩ : ∃ d, Op.maxDepth = d + 1 := ⟨9999, rfl⟩
    have one : ∀ u v, (Op.equal t u v).run P w = (Op.equalIn (d + 1) t u v).run P w := fun u v => by unfold Op.equal; rw [hdep]
    clear hdep
    split at h
    · rename_i hd
      rw [hx.bool_inv, hy.bool_inv]
      cases h
      exact ⟨by rw [one]; simp [Op.equalIn, hu, hd], eg (.inl (by simp)) (by simp), by simp, by simp, by simp, by simp⟩
    · rename_i e p hd
      have hx2 := hx.nilp_inv
      subst hx2
      have hy2 : ∃ q, y2 = .pointer q ∧ q.isNone = p.isNone := by
        cases hy with
        | nilp => exact ⟨none, rfl, rfl⟩
        | ptr e => exact ⟨_, rfl, rfl⟩
      obtain ⟨q, rfl, hq⟩ := hy2
      cases h
      exact ⟨by rw [one]; simp [Op.equalIn, hu, hd, hq], eg (.inl (by simp)) (by simp), by simp, by simp, by simp, by simp⟩
    · rename_i e a hd
      have hy2 := hy.nilp_inv
      subst hy2
      have hx2 : ∃ q, x2 = .pointer (some q) := by cases hx with | ptr e => exact ⟨_, rfl⟩
      obtain ⟨q, rfl⟩ := hx2
      cases h
      exact ⟨by rw [one]; simp [Op.equalIn, hu, hd], eg (.inl (by simp)) (by simp), by simp, by simp, by simp, by simp⟩
    · rename_i e l c p l' c' hd
      have hx2 := hx.nils_inv
      subst hx2
      have hy2 : ∃ q l2 c2, y2 = .slice q l2 c2 ∧ q.isNone = p.isNone := by
        cases hy with
        | nils => exact ⟨none, _, _, rfl, rfl⟩
        | slice e => exact ⟨_, _, _, rfl, rfl⟩
        | tail e f a b => exact ⟨_, _, _, rfl, rfl⟩
        | empty e f => exact ⟨_, _, _, rfl, rfl⟩
      obtain ⟨q, l2, c2, rfl, hq⟩ := hy2
      cases h
      exact ⟨by rw [one]; simp [Op.equalIn, hu, hd, hq], eg (.inl (by simp)) (by simp), by simp, by simp, by simp, by simp⟩
    · rename_i e a l c l' c' hd
      have hy2 := hy.nils_inv
      subst hy2
      have hx2 : ∃ q l2 c2, x2 = .slice (some q) l2 c2 := by
        cases hx with
        | slice e => exact ⟨_, _, _, rfl⟩
        | tail e f a b => exact ⟨_, _, _, rfl⟩
        | empty e f => exact ⟨_, _, _, rfl⟩
      obtain ⟨q, l2, c2, rfl⟩ := hx2
      cases h
      exact ⟨by rw [one]; simp [Op.equalIn, hu, hd], eg (.inl (by simp)) (by simp), by simp, by simp, by simp, by simp⟩
    · rename_i k e p hd
      have hx2 := hx.nilm_inv
      subst hx2
      have hy2 : ∃ q, y2 = .map q ∧ q.isNone = p.isNone := by
        cases hy with
        | nilm => exact ⟨none, rfl, rfl⟩
        | map e => exact ⟨_, rfl, rfl⟩
      obtain ⟨q, rfl, hq⟩ := hy2
      cases h
      exact ⟨by rw [one]; simp [Op.equalIn, hu, hd, hq], eg (.inl (by simp)) (by simp), by simp, by simp, by simp, by simp⟩
    · rename_i k e a hd
      have hy2 := hy.nilm_inv
      subst hy2
      have hx2 : ∃ q, x2 = .map (some q) := by cases hx with | map e => exact ⟨_, rfl⟩
      obtain ⟨q, rfl⟩ := hx2
      cases h
      exact ⟨by rw [one]; simp [Op.equalIn, hu, hd], eg (.inl (by simp)) (by simp), by simp, by simp, by simp, by simp⟩
    · rename_i p1 p2 p3 hd
      cases hx; cases hy
      cases h
      exact ⟨by rw [one]; simp [Op.equalIn, hu, hd], eg (.inl (by simp)) (by simp), by simp, by simp, by simp, by simp⟩
    · rename_i p1 p2 p3 f1 f2 f3 hd
      cases hx
      obtain ⟨_, _, _, rfl, _⟩ := hy.func_inv
      cases h
      exact ⟨by rw [one]; simp [Op.equalIn, hu, hd], eg (.inl (by simp)) (by simp), by simp, by simp, by simp, by simp⟩
    · rename_i p1 p2 p3 f1 f2 f3 hd
      cases hy
      obtain ⟨_, _, _, rfl, _⟩ := hx.func_inv
      cases h
      exact ⟨by rw [one]; simp [Op.equalIn, hu, hd], eg (.inl (by simp)) (by simp), by simp, by simp, by simp, by simp⟩
    · rename_i ms t1 v1 hd
      cases hx
      obtain ⟨_, rfl, _⟩ := hy.iface_inv
      cases h
      exact ⟨by rw [one]; simp [Op.equalIn, hu, hd], eg (.inr (by simp)) (by simp), by simp, by simp, by simp, by simp⟩
    · rename_i ms t1 v1 hd
      cases hy
      obtain ⟨_, rfl, _⟩ := hx.iface_inv
      cases h
      exact ⟨by rw [one]; simp [Op.equalIn, hu, hd], eg (.inl (by simp)) (by simp), by simp, by simp, by simp, by simp⟩
    · rename_i fs a c hd
      split at h
      · rename_i hc
        simp only [Bool.and_eq_true] at hc
        obtain ⟨k1, _, k3⟩ := hpl hc.1.1
        have hv := eqV_VR 3 hx hy h
        obtain ⟨a2, rfl, ha⟩ := hx.agg_inv
        obtain ⟨b2, rfl, hb⟩ := hy.agg_inv
        exact ⟨k3 w a2 b2 b (fits_VR ha hc.1.2) (fits_VR hb hc.2) hv, eg (.inl (by simp)) (fun _ _ _ _ => k1), by simp, by simp, by simp, by simp⟩
      · cases h
    · rename_i n e a c hd
      split at h
      · rename_i hc
        simp only [Bool.and_eq_true] at hc
        obtain ⟨k1, _, k3⟩ := hpl hc.1.1
        have hv := eqV_VR 3 hx hy h
        obtain ⟨a2, rfl, ha⟩ := hx.agg_inv
        obtain ⟨b2, rfl, hb⟩ := hy.agg_inv
        exact ⟨k3 w a2 b2 b (fits_VR ha hc.1.2) (fits_VR hb hc.2) hv, eg (.inl (by simp)) (fun _ _ _ _ => k1), by simp, by simp, by simp, by simp⟩
      · cases h
    · cases h

end Go.Can

/-
  THE CANONICAL INTERPRETER'S SOUNDNESS, fourteenth part: maps.
-/
namespace Go.Can
variable {P : Program} {E : Env} {ρ : Ren} {s s' : St} {w : World} {nx : Nx}

theorem checkKey_step (hE : EnvOK P E) {t : TypeId} {ti : TI} (ht : E.ti t = some ti) (n : Nat) (e : Bool) (v : Value) (h : (∃ k j a, ti.u = .int k ∧ v = .int j a) ∨ (∃ a, ti.u = .string ∧ v = .string a) ∨ (∃ a, ti.u = .bool ∧ v = .bool a)) :
    (Instr.checkKey e (n + 1) t v).run P w = .ok () w := by
  have hu := (hE.ti t ti ht).1
  rcases h with ⟨k, j, a, h1, rfl⟩ | ⟨a, h1, rfl⟩ | ⟨a, h1, rfl⟩ <;> simp [Instr.checkKey, hu, h1]
theorem checkKey_ok (hE : EnvOK P E) {t : TypeId} {k k2 : Value} (hk : VR ρ k k2) (h : keyOK E t k = true) (e : Bool) : (Instr.checkKey e 10000 t k2).run P w = .ok () w := by
  unfold keyOK at h
  split at h
  · cases h
  · rename_i ti ht
    split at h
    · rename_i hd; rw [hk.int_inv]; exact checkKey_step hE ht 9999 e _ (.inl ⟨_, _, _, hd, rfl⟩)
    · rename_i hd; rw [hk.string_inv]; exact checkKey_step hE ht 9999 e _ (.inr (.inl ⟨_, hd, rfl⟩))
    · rename_i hd; rw [hk.bool_inv]; exact checkKey_step hE ht 9999 e _ (.inr (.inr ⟨_, hd, rfl⟩))
    · rename_i a hd
      simp only [Bool.and_eq_true] at h
      obtain ⟨a2, rfl, ha⟩ := hk.agg_inv
      exact ((hE.ti t ti ht).2.2.2.2.2.2 h.1).2.1 w e a2 (fits_VR ha h.2)
    · rename_i a hd
      simp only [Bool.and_eq_true] at h
      obtain ⟨a2, rfl, ha⟩ := hk.agg_inv
      exact ((hE.ti t ti ht).2.2.2.2.2.2 h.1).2.1 w e a2 (fits_VR ha h.2)
    · cases h

theorem keyEq_same {t : TypeId} {k x k2 x2 : Value} (hk : VR ρ k k2) (hx : VR ρ x x2) (h : keyEq E t k x = some true) : Instr.sameBits 10000 x2 k2 = true := by
  unfold keyEq at h
  split at h
  · cases h
  · split at h
    · split at h
      · rename_i hj
        rw [decide_eq_true_eq] at hj
        rw [hk.int_inv, hx.int_inv]
        simp at h
        simp [Instr.sameBits, hj, h]
      · cases h
    · rw [hk.string_inv, hx.string_inv]
      simp at h
      rw [ba_beq] at h
      have := eq_of_beq h
      simp [Instr.sameBits, ba_beq, this]
    · rw [hk.bool_inv, hx.bool_inv]
      simp at h
      simp [Instr.sameBits, h]
    · split at h
      · exact eqV_sameBits 3 10000 (by omega) (eqV_VR 3 hk hx h)
      · cases h
    · split at h
      · exact eqV_sameBits 3 10000 (by omega) (eqV_VR 3 hk hx h)
      · cases h
    · cases h

theorem findE_some {t : TypeId} {k : Value} : ∀ (es : List MapEntry) (i j : Nat) (v : Value), findE E t k es i = some (some (j, v)) → i ≤ j ∧ ∃ e, es[j - i]? = some e ∧ e.val = v ∧ keyEq E t k e.key = some true
  | [], i, j, v, h => by simp [findE] at h
  | e :: es, i, j, v, h => by
    simp only [findE] at h
    split at h
    · rename_i he
      simp at h
      obtain ⟨rfl, rfl⟩ := h
      exact ⟨Nat.le_refl _, e, by simp, rfl, he⟩
    · obtain ⟨h1, e', h2, h3, h4⟩ := findE_some es (Nat.succ i) j v h
      refine ⟨by omega, e', ?_, h3, h4⟩
      rw [show j - i = (j - Nat.succ i) + 1 by omega]
      simpa using h2
    · cases h

/-- how the two searches' answers stand to one another -/
def FR (ρ : Ren) : Option (Nat × Value) → Option (Nat × Value) → Prop
  | none, none => True
  | some (i, v), some (j, u) => i = j ∧ VR ρ v u
  | _, _ => False

theorem findNow_ok {t : TypeId} {ti : TI} (ht : E.ti t = some ti) (hk : (∃ k, ti.u = .int k) ∨ ti.u = .string ∨ ti.u = .bool) {k k2 : Value} (hkk : VR ρ k k2) : ∀ (es es2 : List MapEntry) (i : Nat) (r : Option (Nat × Value)), F2 (ER ρ) es es2 → findE E t k es i = some r →
    ∃ r2, Instr.findNow ti.u k2 es2 i = some r2 ∧ FR ρ r r2 := by
  intro es
  induction es with
  | nil => intro es2 i r he h; cases he; simp [findE] at h; subst h; exact ⟨none, rfl, trivial⟩
  | cons e es ih =>
    intro es2 i r he h
    cases he with
    | cons hee hes =>
      rename_i e2 es2
      obtain ⟨h1, h2, h3⟩ := hee
      have key : ∀ b, keyEq E t k e.key = some b → Instr.sameNow ti.u k2 e2.key = some b := by
        intro b hb
        unfold keyEq at hb
        rw [ht] at hb
        simp only at hb
        split at hb
        · rename_i hd hy
          split at hb
          · rename_i hj
            rw [decide_eq_true_eq] at hj
            rw [hkk.int_inv]
            rw [hy] at h1
            rw [h1.int_inv, hd]
            simpa [Instr.sameNow, hj] using hb
          · cases hb
        · rename_i hd hy
          rw [hkk.string_inv]
          rw [hy] at h1
          rw [h1.string_inv, hd]
          simpa [Instr.sameNow] using hb
        · rename_i hd hy
          rw [hkk.bool_inv]
          rw [hy] at h1
          rw [h1.bool_inv, hd]
          simpa [Instr.sameNow] using hb
        · rename_i hd _; rw [hd] at hk; simp at hk
        · rename_i hd _; rw [hd] at hk; simp at hk
        · cases hb
      simp only [findE] at h
      simp only [Instr.findNow]
      split at h
      · rename_i hq
        rw [key _ hq]
        cases h
        exact ⟨_, rfl, rfl, h2⟩
      · rename_i hq
        rw [key _ hq]
        exact ih es2 (Nat.succ i) r hes h
      · cases h

theorem findAsking_ok (hE : EnvOK P E) {t : TypeId} {ti : TI} (ht : E.ti t = some ti) (hpl : ti.plain = true) {k k2 : Value} {a : Array Value} (hka : k = .agg a) (hsz : fits ti.zero.cells.toList a.toList = true) (hkk : VR ρ k k2) : ∀ (es es2 : List MapEntry) (i : Nat) (r : Option (Nat × Value)), F2 (ER ρ) es es2 → findE E t k es i = some r →
    ∃ r2, (Instr.findAsking t k2 es2 i).run P w = .ok r2 w ∧ FR ρ r r2 := by
  intro es
  induction es with
  | nil => intro es2 i r he h; cases he; simp [findE] at h; subst h; exact ⟨none, rfl, trivial⟩
  | cons e es ih =>
    intro es2 i r he h
    cases he with
    | cons hee hes =>
      rename_i e2 es2
      obtain ⟨h1, h2, h3⟩ := hee
      have key : ∀ b, keyEq E t k e.key = some b → (Op.equal t k2 e2.key).run P w = .ok b w := by
        intro b hb
        unfold keyEq at hb
        rw [ht] at hb
        subst hka
        simp only at hb
        have ev : ∃ c, e.key = .agg c ∧ fits ti.zero.cells.toList c.toList = true ∧ eqV 3 (.agg a) (.agg c) = some b := by
          split at hb
          · rename_i hx _; cases hx
          · rename_i hx _; cases hx
          · rename_i hx _; cases hx
          · rename_i hx hy; cases hx
            split at hb
            · rename_i hf; exact ⟨_, hy, hf, hb⟩
            · cases hb
          · rename_i hx hy; cases hx
            split at hb
            · rename_i hf; exact ⟨_, hy, hf, hb⟩
            · cases hb
          · cases hb
        obtain ⟨c, hec, hfc, ev⟩ := ev
        rw [hec] at h1
        have hv := eqV_VR 3 hkk h1 ev
        obtain ⟨a2, rfl, ha⟩ := hkk.agg_inv
        obtain ⟨b2, hb2, hbl⟩ := h1.agg_inv
        rw [hb2] at hv ⊢
        exact ((hE.ti t ti ht).2.2.2.2.2.2 hpl).2.2 w a2 b2 b (fits_VR ha hsz) (fits_VR hbl hfc) hv
      simp only [findE] at h
      simp only [Instr.findAsking, Sem.run_bind]
      split at h
      · rename_i hq
        rw [key _ hq]
        cases h
        exact ⟨_, rfl, rfl, h2⟩
      · rename_i hq
        rw [key _ hq]
        exact ih es2 (Nat.succ i) r hes h
      · cases h

theorem findKey_ok (hE : EnvOK P E) {t : TypeId} {k k2 : Value} {es es2 : List MapEntry} {r : Option (Nat × Value)} (hk : keyOK E t k = true) (hkk : VR ρ k k2) (he : F2 (ER ρ) es es2) (h : findE E t k es 0 = some r) :
    ∃ r2, (Instr.findKey t k2 es2).run P w = .ok r2 w ∧ FR ρ r r2 := by
  unfold keyOK at hk
  split at hk
  · cases hk
  · rename_i ti ht
    have hu := (hE.ti t ti ht).1
    have now : ((∃ k, ti.u = .int k) ∨ ti.u = .string ∨ ti.u = .bool) → ∃ r2, (Instr.findKey t k2 es2).run P w = .ok r2 w ∧ FR ρ r r2 := by
      intro hh
      obtain ⟨r2, h1, h2⟩ := findNow_ok (ρ := ρ) ht hh hkk es es2 0 r he h
      exact ⟨r2, by simp [Instr.findKey, hu, h1], h2⟩
    have ask : ∀ a, k = .agg a → ti.plain = true → fits ti.zero.cells.toList a.toList = true → (∀ x y, Instr.sameNow ti.u (.agg x) y = none) → ∃ r2, (Instr.findKey t k2 es2).run P w = .ok r2 w ∧ FR ρ r r2 := by
      intro a hka hpl hsz hn
      obtain ⟨r2, h1, h2⟩ := findAsking_ok (w := w) hE ht hpl hka hsz hkk es es2 0 r he h
      subst hka
      obtain ⟨a2, rfl, _⟩ := hkk.agg_inv
      cases he with
      | nil =>
        simp [findE] at h; subst h
        exact ⟨none, by simp [Instr.findKey, hu, Instr.findNow], trivial⟩
      | cons _ _ =>
        refine ⟨r2, ?_, h2⟩
        simp only [Instr.findKey, Sem.run_bind, hu, Result.andThen_ok, Instr.findNow, hn]
        exact h1
    split at hk
    · rename_i hd; exact now (.inl ⟨_, hd⟩)
    · rename_i hd; exact now (.inr (.inl hd))
    · rename_i hd; exact now (.inr (.inr hd))
    · rename_i a hd
      simp only [Bool.and_eq_true] at hk
      exact ask a rfl hk.1 hk.2 (fun x y => by rw [hd]; rfl)
    · rename_i a hd
      simp only [Bool.and_eq_true] at hk
      exact ask a rfl hk.1 hk.2 (fun x y => by rw [hd]; rfl)
    · cases hk

/-! ### the entries -/
theorem setEntry_eq {R : Type} : ∀ (es : List MapEntry) (i : Nat) (key v : Value) (k : List MapEntry → R), setEntry es i key v k = k (es.modify i fun e => ⟨key, v, e.born⟩)
  | [], i, key, v, k => by simp [setEntry]
  | e :: es, 0, key, v, k => by simp [setEntry]
  | e :: es, i + 1, key, v, k => by simp [setEntry, setEntry_eq es i]
theorem addEntry_eq {R : Type} : ∀ (es : List MapEntry) (x : MapEntry) (k : List MapEntry → R), addEntry es x k = k (es ++ [x])
  | [], x, k => by simp [addEntry]
  | e :: es, x, k => by simp [addEntry, addEntry_eq es]
theorem modify_F2 {es es2 : List MapEntry} (h : F2 (ER ρ) es es2) (f g : MapEntry → MapEntry) (hfg : ∀ x y, ER ρ x y → ER ρ (f x) (g y)) : ∀ i, F2 (ER ρ) (es.modify i f) (es2.modify i g) := by
  induction h with
  | nil => intro i; simpa using F2.nil
  | cons hx hl ih =>
    intro i
    cases i with
    | zero => simpa using F2.cons (hfg _ _ hx) hl
    | succ i => simpa using F2.cons hx (ih i)

theorem getMap_ok (h : HR ρ s w) {b : Nat} {es : List MapEntry} {clk : Nat} (hg : getMap s b = some (es, clk)) {r : RB} (hr : ρ b = some r) : ∃ es2 : Array MapEntry, w.heap[r.blk]? = some (.map es2 clk) ∧ F2 (ER ρ) es es2.toList := by
  unfold getMap at hg
  split at hg
  · rename_i es' c' f v z hk
    cases hg
    obtain ⟨r', hr', _, _, _, hor⟩ := h.live b _ hk
    rw [hr] at hr'; cases hr'
    exact hor
  · cases hg
theorem run_getObj_of {w : World} {r : Nat} {o : Obj} (h : w.heap[r]? = some o) (hc : ∀ c e f, o ≠ .cells c e f) : (getObj r).run P w = .ok o w := by
  simp only [getObj, Sem.run, h]
theorem run_setObj_of {w : World} {r : Nat} {o o' : Obj} (h : w.heap[r]? = some o) (hc : ∀ c e f, o ≠ .cells c e f) : (Go.setObj r o').run P w = .ok () { w with heap := w.heap.setIfInBounds r o' } := by
  simp only [Go.setObj, Sem.run, h]
theorem setMap_ok (h : HR ρ s w) {b : Nat} {es es' : List MapEntry} {es2' : Array MapEntry} {clk clk' : Nat} {r : RB} (hr : ρ b = some r) (he : F2 (ER ρ) es' es2'.toList) (hs : Can.setObj s b (.map es' clk') = some s') (_ : getMap s b = some (es, clk)) :
    HR ρ s' { w with heap := w.heap.setIfInBounds r.blk (.map es2' clk') } ∧ Ev ρ w ρ { w with heap := w.heap.setIfInBounds r.blk (.map es2' clk') } := by
  obtain ⟨k, r', hk, hr', hor, hfin⟩ := setObj_ok h hs
  rw [hr] at hr'; cases hr'
  exact hfin _ fun s1 => ⟨es2', by simp [h.top b r hr], he⟩

theorem mapPut_ok (hE : EnvOK P E) (h : HR ρ s w) {t : TypeId} {m m2 k k2 v v2 : Value} (hm : VR ρ m m2) (hk : VR ρ k k2) (hv : VR ρ v v2) (hp : mapPut E s t m k v = some s') :
    ∃ w', (Instr.mapUpdate t m2 k2 v2).run P w = .ok () w' ∧ HR ρ s' w' ∧ Ev ρ w ρ w' := by
  unfold mapPut at hp
  split at hp
  · rename_i kt e1 e2 e3 e4 e5 ht
    have hu := (hE.ti t _ ht).1
    simp only at hu
    split at hp
    · rename_i b hkey
      obtain ⟨r, hr, rfl⟩ := hm.map_inv
      split at hp
      · cases hp
      · rename_i es clk hg
        obtain ⟨es2, hw, he⟩ := getMap_ok h hg hr
        have hgo := run_getObj_of (P := P) hw (by simp)
        have hck := checkKey_ok (P := P) (w := w) hE hk hkey false
        split at hp
        · cases hp
        · rename_i i v0 hf
          rw [setEntry_eq] at hp
          obtain ⟨r2, hf2, hfr⟩ := findKey_ok (w := w) hE hkey hk he hf
          obtain ⟨_, e0, he0, _, hq⟩ := findE_some es 0 i v0 hf
          obtain ⟨e02, he02, her⟩ := he.get i e0 (by simpa using he0)
          cases r2 with
          | none => exact hfr.elim
          | some p =>
            obtain ⟨j, u⟩ := p
            obtain ⟨rfl, hvu⟩ := hfr
            have hsb := keyEq_same hk her.1 hq
            have hse := run_setObj_of (P := P) (o' := .map (es2.modify i fun e => { e with key := k2, val := v2 }) clk) hw (by simp)
            obtain ⟨g1, g2⟩ := setMap_ok (es2' := es2.modify i fun e => { e with key := k2, val := v2 }) h hr (by simpa using modify_F2 he (fun e => ⟨k, v, e.born⟩) (fun e => { e with key := k2, val := v2 }) (fun x y hxy => ⟨hk, hv, hxy.2.2⟩) i) hp hg
            refine ⟨_, ?_, g1, g2⟩
            have hge : es2[i]? = some e02 := by simpa using he02
            simp [Instr.mapUpdate, hu, hgo, hck, hf2, hge, Instr.keyThatStays, hsb, hse]
        · rename_i hf
          rw [addEntry_eq, fN_eq] at hp
          obtain ⟨r2, hf2, hfr⟩ := findKey_ok (w := w) hE hkey hk he hf
          cases r2 with
          | some p => exact hfr.elim
          | none =>
            have hse := run_setObj_of (P := P) (o' := .map (es2.push { key := k2, val := v2, born := clk }) (clk + 1)) hw (by simp)
            obtain ⟨g1, g2⟩ := setMap_ok (es2' := es2.push { key := k2, val := v2, born := clk }) h hr (by simpa using he.append (.cons (show ER ρ ⟨k, v, clk⟩ ⟨k2, v2, clk⟩ from ⟨hk, hv, rfl⟩) .nil)) hp hg
            refine ⟨_, ?_, g1, g2⟩
            simp [Instr.mapUpdate, hu, hgo, hck, hf2, hse]
    · cases hp
  · cases hp

theorem ex_mapUpdate (hE : EnvOK P E) (h : HR ρ s w) {t : TypeId} {m m2 k k2 v v2 : Value} (hm : VR ρ m m2) (hk : VR ρ k k2) (hv : VR ρ v v2) (hp : mapPut E s t m k v = some s') :
    Does P E ρ w s' (.value undef) (do Instr.mapUpdate t m2 k2 v2; pure .skip) := by
  obtain ⟨w', h1, h2, h3⟩ := mapPut_ok hE h hm hk hv hp
  exact ⟨ρ, .skip, w', by simp [h1], VR.undef, h2, h3⟩

end Go.Can

/-
  THE CANONICAL INTERPRETER'S SOUNDNESS, fifteenth part: the operations that are left.
-/
namespace Go.Can
variable {P : Program} {E : Env} {ρ : Ren} {s s' : St} {w : World} {nx : Nx}

theorem vl2 {a b a2 b2 : Value} (h : VR ρ a a2) (k : VR ρ b b2) : VR ρ (.tuple #[a, b]) (.tuple #[a2, b2]) := VR.tuple' (.cons h (.cons k .nil))

theorem ex_lookup (hE : EnvOK P E) (h : HR ρ s w) {t kt elem : TypeId} {ti te : TI} (ht : E.ti t = some ti) (hu : ti.u = .map kt elem) (hte : E.ti elem = some te) {m m2 k k2 : Value} (hm : VR ρ m m2) (hk : VR ρ k k2) (hkey : keyOK E kt k = true)
    {es : List MapEntry} (hes : (m = .map none ∧ es = []) ∨ ∃ r clk, m = .map (some r) ∧ getMap s r = some (es, clk)) {r : Option (Nat × Value)} (hf : findE E kt k es 0 = some r) (ok : Bool) :
    Does P E ρ w s (.value (lookRes ok te.zero r)) (do pure (.value (← Instr.lookup t m2 k2 ok))) := by
  have hut := (hE.ti t ti ht).1
  rw [hu] at hut
  obtain ⟨_, _, hz, hcl, _, _, _⟩ := hE.ti elem te hte
  have hzz := closed_VR (ρ := ρ) 4 _ hcl
  have core : ∀ (es2 : Array MapEntry), F2 (ER ρ) es es2.toList → (∀ (e : Bool), (Instr.checkKey e 10000 kt k2).run P w = .ok () w) → ∃ r2, (Instr.findKey kt k2 es2.toList).run P w = .ok r2 w ∧ FR ρ r r2 := fun es2 he _ => findKey_ok (w := w) hE hkey hk he hf
  have fin : ∀ (es2 : Array MapEntry) (r2 : Option (Nat × Value)), FR ρ r r2 → ∃ u, VR ρ (lookRes ok te.zero r) u ∧ u = (match r2 with | some (_, v) => if ok then .tuple #[v, .bool true] else v | none => if ok then .tuple #[te.zero, .bool false] else te.zero) := by
    intro es2 r2 hfr
    cases r with
    | none =>
      cases r2 with
      | none => cases ok <;> exact ⟨_, by first | exact vl2 hzz (.bool _) | exact hzz, rfl⟩
      | some _ => exact hfr.elim
    | some p =>
      cases r2 with
      | none => exact hfr.elim
      | some q => cases ok <;> exact ⟨_, by first | exact vl2 hfr.2 (.bool _) | exact hfr.2, rfl⟩
  rcases hes with ⟨rfl, rfl⟩ | ⟨b, clk, rfl, hg⟩
  · have := hm.nilm_inv
    subst this
    obtain ⟨r2, h1, h2⟩ := core #[] .nil (fun e => checkKey_ok hE hk hkey e)
    obtain ⟨u, h3, rfl⟩ := fin #[] r2 h2
    refine does_value h ?_ h3
    have hck := checkKey_ok (P := P) (w := w) hE hk hkey (#[] : Array MapEntry).isEmpty
    simp only [Instr.lookup, Sem.run_bind, hut, Result.andThen_ok, Sem.run_pure, hck, h1]
    cases r2 with
    | none => simp [hz]
    | some q => obtain ⟨i, v⟩ := q; simp
  · obtain ⟨q, hq, rfl⟩ := hm.map_inv
    obtain ⟨es2, hw, he⟩ := getMap_ok h hg hq
    obtain ⟨r2, h1, h2⟩ := core es2 he (fun e => checkKey_ok hE hk hkey e)
    obtain ⟨u, h3, rfl⟩ := fin es2 r2 h2
    refine does_value h ?_ h3
    have hgo := run_getObj_of (P := P) hw (by simp)
    have hck := checkKey_ok (P := P) (w := w) hE hk hkey es2.isEmpty
    simp only [Instr.lookup, Sem.run_bind, hut, Result.andThen_ok, hgo, Sem.run_pure, hck, h1]
    cases r2 with
    | none => simp [hz]
    | some q => obtain ⟨i, v⟩ := q; simp

theorem ex_mapEntry (hE : EnvOK P E) (h : HR ρ s w) {t kt elem : TypeId} {ti te : TI} (ht : E.ti t = some ti) (hu : ti.u = .map kt elem) (hte : E.ti elem = some te) {b : Nat} {m2 k k2 : Value} (hm : VR ρ (.map (some b)) m2) (hk : VR ρ k k2) (hkey : keyOK E kt k = true)
    {es : List MapEntry} {clk : Nat} (hg : getMap s b = some (es, clk)) {r : Option (Nat × Value)} (hf : findE E kt k es 0 = some r) {v : Value}
    (hv : match r with
      | some (i, x) => ∃ e, es[i]? = some e ∧ v = .tuple #[x, goInt e.born] ∧ Can.setObj s b (.map (es.modify i fun e => ⟨k, x, e.born⟩) clk) = some s'
      | none => v = .tuple #[te.zero, goInt clk] ∧ Can.setObj s b (.map (es ++ [⟨k, te.zero, clk⟩]) (clk + 1)) = some s') :
    Does P E ρ w s' (.value v) (do pure (.value (← Instr.mapEntry t m2 k2))) := by
  have hut := (hE.ti t ti ht).1
  rw [hu] at hut
  obtain ⟨_, _, hz, hcl, _, _, _⟩ := hE.ti elem te hte
  have hzz := closed_VR (ρ := ρ) 4 _ hcl
  obtain ⟨q, hq, rfl⟩ := hm.map_inv
  obtain ⟨es2, hw, he⟩ := getMap_ok h hg hq
  have hgo := run_getObj_of (P := P) hw (by simp)
  have hck := checkKey_ok (P := P) (w := w) hE hk hkey false
  obtain ⟨r2, h1, h2⟩ := findKey_ok (w := w) hE hkey hk he hf
  cases r with
  | none =>
    cases r2 with
    | some _ => exact h2.elim
    | none =>
      obtain ⟨rfl, hs⟩ := hv
      have hse := run_setObj_of (P := P) (o' := .map (es2.push { key := k2, val := te.zero, born := clk }) (clk + 1)) hw (by simp)
      obtain ⟨g1, g2⟩ := setMap_ok (es2' := es2.push { key := k2, val := te.zero, born := clk }) h hq (by simpa using he.append (.cons (show ER ρ ⟨k, te.zero, clk⟩ ⟨k2, te.zero, clk⟩ from ⟨hk, hzz, rfl⟩) .nil)) hs hg
      refine ⟨ρ, .value (.tuple #[te.zero, goInt clk]), _, ?_, vl2 hzz (.int _ _), g1, g2⟩
      simp [Instr.mapEntry, hut, hgo, hck, h1, hz, hse]
  | some p =>
    obtain ⟨i, x⟩ := p
    cases r2 with
    | none => exact h2.elim
    | some p2 =>
      obtain ⟨j, x2⟩ := p2
      obtain ⟨rfl, hx⟩ := h2
      obtain ⟨e, hei, rfl, hs⟩ := hv
      obtain ⟨_, e0, he0, hval, hqq⟩ := findE_some es 0 i x hf
      simp at he0
      rw [hei] at he0; cases he0
      obtain ⟨e2, he2, her⟩ := he.get i e hei
      have hge : es2[i]? = some e2 := by simpa using he2
      have hsb := keyEq_same hk her.1 hqq
      have hse := run_setObj_of (P := P) (o' := .map (es2.modify i fun e => { e with key := k2 }) clk) hw (by simp)
      have hmod : F2 (ER ρ) (es.modify i fun e => ⟨k, x, e.born⟩) (es2.toList.modify i fun e => { e with key := k2 }) := by
        refine F2.of_get (by simp [he.length]) ?_
        intro n a b ha hb
        rw [List.getElem?_modify] at ha hb
        by_cases hn : i = n
        · subst hn
          rw [hei] at ha
          rw [he2] at hb
          simp at ha hb
          subst ha hb
          exact ⟨hk, by rw [← hval]; exact her.2.1, her.2.2⟩
        · simp only [hn, if_false] at ha hb
          simp at ha hb
          exact he.get' n ha (by simpa using hb)
      obtain ⟨g1, g2⟩ := setMap_ok (es2' := es2.modify i fun e => { e with key := k2 }) h hq (by simpa using hmod) hs hg
      refine ⟨ρ, .value (.tuple #[x2, goInt e2.born]), _, ?_, vl2 hx (by rw [her.2.2]; exact .int _ _), g1, g2⟩
      simp [Instr.mapEntry, hut, hgo, hck, h1, hge, Instr.keyThatStays, hsb, hse]

theorem ex_entryStore (h : HR ρ s w) {t : TypeId} {b : Nat} {m2 v v2 : Value} {k : IntKind} {born : Int} (hm : VR ρ (.map (some b)) m2) (hv : VR ρ v v2) {es : List MapEntry} {clk i : Nat} {e : MapEntry} (hg : getMap s b = some (es, clk))
    (hi : es.findIdx? (fun e => (e.born : Int) == born) = some i) (he : es[i]? = some e) (hs : Can.setObj s b (.map (es.modify i fun x => ⟨e.key, v, x.born⟩) clk) = some s') :
    Does P E ρ w s' (.value undef) (do Instr.entryStore t m2 (.int k born) v2; pure .skip) := by
  obtain ⟨q, hq, rfl⟩ := hm.map_inv
  obtain ⟨es2, hw, hes⟩ := getMap_ok h hg hq
  have hgo := run_getObj_of (P := P) hw (by simp)
  have hidx : ∀ (l : List MapEntry) (m : List MapEntry), F2 (ER ρ) l m → l.findIdx? (fun e => (e.born : Int) == born) = m.findIdx? (fun e => (e.born : Int) == born) := by
    intro l
    induction l with
    | nil => intro m h; cases h; rfl
    | cons x l ih =>
      intro m h
      cases h with
      | cons hx hl => simp only [List.findIdx?_cons, hx.2.2, ih _ hl]
  have hi2 : es2.findIdx? (fun e => (e.born : Int) == born) = some i := by
    have h0 := hidx _ _ hes
    rw [hi] at h0
    obtain ⟨l⟩ := es2
    simpa using h0.symm
  have hse := run_setObj_of (P := P) (o' := .map (es2.modify i fun e => { e with val := v2 }) clk) hw (by simp)
  obtain ⟨e2, he2, her⟩ := hes.get i e he
  have hmod : F2 (ER ρ) (es.modify i fun x => ⟨e.key, v, x.born⟩) (es2.toList.modify i fun e => { e with val := v2 }) := by
    refine F2.of_get (by simp [hes.length]) ?_
    intro n a b ha hb
    rw [List.getElem?_modify] at ha hb
    by_cases hn : i = n
    · subst hn
      rw [he] at ha
      rw [he2] at hb
      simp at ha hb
      subst ha hb
      exact ⟨her.1, hv, her.2.2⟩
    · simp only [hn, if_false] at ha hb
      simp at ha hb
      exact hes.get' n ha (by simpa using hb)
  obtain ⟨g1, g2⟩ := setMap_ok (es2' := es2.modify i fun e => { e with val := v2 }) h hq (by simpa using hmod) hs hg
  refine ⟨ρ, .skip, _, ?_, VR.undef, g1, g2⟩
  simp [Instr.entryStore, hgo, asInt, asIntOf, hi2, hse]

/-! ### numbers -/
theorem intBin_ok {op : BinOp} {k : IntKind} {a b : Int} {v : Value} (hs : op ≠ .shl) (hs' : op ≠ .shr) (h : intBin op k a b = some v) (t : TypeId) : (binOp op t (.int k a) (.int k b)).run P w = .ok v w ∧ VR ρ v v := by
  unfold intBin at h
  cases op with
  | shl => exact absurd rfl hs
  | shr => exact absurd rfl hs'
  | quo =>
    by_cases h0 : b = 0
    · simp [h0] at h
    · simp [h0] at h; subst h; exact ⟨by simp [binOp, Op.intDiv, h0], .int _ _⟩
  | rem =>
    by_cases h0 : b = 0
    · simp [h0] at h
    · simp [h0] at h; subst h; exact ⟨by simp [binOp, Op.intDiv, h0], .int _ _⟩
  | _ => simp at h; subst h; exact ⟨by simp [binOp, Op.intArith, Op.intBits, Op.intCmp], by constructor⟩

theorem ex_binOp (hE : EnvOK P E) (h : HR ρ s w) {op : BinOp} {t : TypeId} {x y x2 y2 v : Value} (xo yo : Operand) (hx : VR ρ x x2) (hy : VR ρ y y2) (hb : binV E op t x y = some v) :
    Does P E ρ w s (.value v) ((do eqGuard op t xo yo x2 y2; binOp op t x2 y2 : Sem Value) >>= fun u => pure (.value u)) := by
  have run : ∀ u : Value, (eqGuard op t xo yo x2 y2).run P w = .ok () w → (binOp op t x2 y2).run P w = .ok u w → VR ρ v u → Does P E ρ w s (.value v) ((do eqGuard op t xo yo x2 y2; binOp op t x2 y2 : Sem Value) >>= fun u => pure (.value u)) := by
    intro u h1 h2 h3
    refine ⟨ρ, .value u, w, ?_, h3, h, Ev.refl ρ w⟩
    simp only [Sem.run_bind, h1, h2, Result.andThen_ok, Sem.run_pure]
  unfold binV at hb
  split at hb
  · rename_i k a k' b
    have e1 := hx.int_inv; have e2 := hy.int_inv
    subst e1 e2
    have hg : (eqGuard op t xo yo (.int k a) (.int k' b)).run P w = .ok () w := by cases op <;> rfl
    split at hb
    · split at hb
      · cases hb
      · rename_i h0
        cases hb
        simp at h0
        exact run _ hg (by simp [binOp, Op.shift, show ¬ b < 0 by omega]) (.int _ _)
    · split at hb
      · cases hb
      · rename_i h0
        cases hb
        simp at h0
        exact run _ hg (by simp [binOp, Op.shift, show ¬ b < 0 by omega]) (.int _ _)
    · rename_i op' hn1 hn2
      split at hb
      · rename_i hk
        rw [decide_eq_true_eq] at hk
        subst hk
        obtain ⟨r1, r2⟩ := intBin_ok (P := P) (ρ := ρ) (w := w) hn1 hn2 hb t
        exact run _ hg r1 r2
      · cases hb
  · rename_i a b
    have e1 := hx.string_inv; have e2 := hy.string_inv
    subst e1 e2
    have hg : (eqGuard op t xo yo (.string a) (.string b)).run P w = .ok () w := by cases op <;> rfl
    unfold strBin at hb
    cases op with
    | add =>
      simp only at hb
      split at hb
      · cases hb
      · rename_i h0
        cases hb
        rw [decide_eq_false_iff_not] at h0
        refine run _ hg ?_ (.string _)
        simp only [binOp, Op.stringOp]
        rw [if_neg h0]
        rfl
    | eql => simp at hb; subst hb; exact run _ hg (by simp [binOp, Op.stringOp]) (.bool _)
    | neq => simp at hb; subst hb; exact run _ hg (by simp [binOp, Op.stringOp]) (.bool _)
    | lss => simp at hb; subst hb; exact run _ hg (by simp [binOp, Op.stringOp]) (.bool _)
    | leq => simp at hb; subst hb; exact run _ hg (by simp [binOp, Op.stringOp]) (.bool _)
    | gtr => simp at hb; subst hb; exact run _ hg (by simp [binOp, Op.stringOp]) (.bool _)
    | geq => simp at hb; subst hb; exact run _ hg (by simp [binOp, Op.stringOp]) (.bool _)
    | _ => simp at hb
  · rename_i h1 h2
    split at hb
    · split at hb
      · rename_i b he
        cases hb
        obtain ⟨r1, r2, n1, n2, n3, n4⟩ := eqT_ok (w := w) hE hx hy he xo yo .eql
        refine run (.bool b) r2 ?_ (.bool _)
        have : binOp .eql t x2 y2 = (do pure (.bool (← Op.equal t x2 y2))) := by
          cases x2 <;> first | rfl | (exact absurd rfl (n1 _ _)) | (exact absurd rfl (n2 _ _)) | (exact absurd rfl (n3 _ _ _)) | (exact absurd rfl (n4 _))
        rw [this]
        simp [r1]
      · cases hb
    · split at hb
      · rename_i b he
        cases hb
        obtain ⟨r1, r2, n1, n2, n3, n4⟩ := eqT_ok (w := w) hE hx hy he xo yo .neq
        refine run (.bool !b) r2 ?_ (.bool _)
        have : binOp .neq t x2 y2 = (do pure (.bool (!(← Op.equal t x2 y2)))) := by
          cases x2 <;> first | rfl | (exact absurd rfl (n1 _ _)) | (exact absurd rfl (n2 _ _)) | (exact absurd rfl (n3 _ _ _)) | (exact absurd rfl (n4 _))
        rw [this]
        simp [r1]
      · cases hb
    · cases hb

end Go.Can

/-
  THE CANONICAL INTERPRETER'S SOUNDNESS, sixteenth part: calls; one operation, whole.
-/
namespace Go.Can
variable {P : Program} {E : Env} {ρ : Ren} {s s' : St} {w : World} {nx : Nx}

theorem evs_VL {ev ev2 : Operand → Value} : ∀ (l : List Operand), (∀ x ∈ l, VR ρ (ev x) (ev2 x)) → VL ρ (evs ev l) (l.map ev2)
  | [], _ => .nil
  | x :: l, h => .cons (h x (by simp)) (evs_VL l fun y hy => h y (by simp [hy]))

theorem TR.put {t : T Value} {n : Nat} {tmps : Array Value} (h : TR ρ t n tmps) {p : Nat} (hp : p < n) {v u : Value} (hv : VR ρ v u) : TR ρ (t.upd p v) n (tmps.setIfInBounds p u) := by
  refine ⟨by simpa using h.1, h.2.1, fun i => ?_⟩
  by_cases hi : p = i
  · subst hi
    rw [T.get_upd_same _ _ (by have := h.2.1; omega)]
    have : p < tmps.size := by rw [h.1]; exact hp
    simpa [this] using hv
  · rw [T.get_upd_ne _ _ hi]
    have := h.2.2 i
    simpa [Array.getElem?_setIfInBounds_ne hi] using this
theorem bindParams_ok : ∀ (l : List (Tmp × Value)) (m : List (Tmp × Value)) (n : Nat) (t t' : T Value) (tmps : Array Value), F2 (fun p q => p.1 = q.1 ∧ VR ρ p.2 q.2) l m → TR ρ t n tmps → bindParams l n t = some t' →
    TR ρ t' n (m.foldl (fun a x => a.setIfInBounds x.1 x.2) tmps)
  | [], m, n, t, t', tmps, h, ht, hb => by cases h; simp [bindParams] at hb; subst hb; exact ht
  | p :: l, m, n, t, t', tmps, h, ht, hb => by
    cases h with
    | cons hp hl =>
      rename_i q m
      simp only [bindParams] at hb
      split at hb
      · rename_i hlt
        rw [fV_eq, T.put_eq] at hb
        have := bindParams_ok l m n _ t' _ hl (ht.put (blt_true.1 hlt) hp.2) hb
        rw [hp.1] at this
        exact this
      · cases hb

theorem zip_F2 : ∀ {ps : List Tmp} {l m : List Value}, VL ρ l m → F2 (fun p q => p.1 = q.1 ∧ VR ρ p.2 q.2) (ps.zip l) (ps.zip m)
  | [], _, _, _ => by simpa using F2.nil
  | _ :: _, _, _, .nil => by simpa using F2.nil
  | _ :: _, _, _, .cons hx hl => .cons ⟨rfl, hx⟩ (zip_F2 hl)

theorem ex_callF (hE : EnvOK P E) (h : HR ρ s w) {f : Nat} {args : List Value} {args2 : Array Value} (ha : VL ρ args args2.toList) (hc : callF E f args s = some (nx, s')) : Does P E ρ w s' nx (callFunc f args2) := by
  unfold callF at hc
  split at hc
  · cases hc
  · rename_i fn hfn
    rw [fL_eq] at hc
    cases hc
    exact ⟨ρ, .enter f args2, w, (hE.fn f fn hfn).2 args2 w, ⟨rfl, ha⟩, h, Ev.refl ρ w⟩

theorem minI_ok : ∀ (l : List Value) (m : List Value) (k : IntKind) (x r : Int) , VL ρ l m → minI x l = some r → (m.foldlM Builtin.min2 (.int k x)).run P w = .ok (.int k r) w
  | [], m, k, x, r, h, hm => by cases h; simp [minI] at hm; subst hm; rfl
  | v :: l, m, k, x, r, h, hm => by
    cases h with
    | cons hv hl =>
      cases v with
      | int j y =>
        have := hv.int_inv
        subst this
        simp only [minI] at hm
        simp only [List.foldlM_cons, Sem.run_bind, Builtin.min2, Sem.run_pure, Result.andThen_ok]
        exact minI_ok l _ k _ r hl hm
      | _ => simp [minI] at hm
theorem maxI_ok : ∀ (l : List Value) (m : List Value) (k : IntKind) (x r : Int) , VL ρ l m → maxI x l = some r → (m.foldlM Builtin.max2 (.int k x)).run P w = .ok (.int k r) w
  | [], m, k, x, r, h, hm => by cases h; simp [maxI] at hm; subst hm; rfl
  | v :: l, m, k, x, r, h, hm => by
    cases h with
    | cons hv hl =>
      cases v with
      | int j y =>
        have := hv.int_inv
        subst this
        simp only [maxI] at hm
        simp only [List.foldlM_cons, Sem.run_bind, Builtin.max2, Sem.run_pure, Result.andThen_ok]
        exact maxI_ok l _ k _ r hl hm
      | _ => simp [maxI] at hm

theorem ex_copy (hE : EnvOK P E) (h : HR ρ s w) {t elem : TypeId} {ti te : TI} (ht : E.ti t = some ti) (hu : ti.u = .slice elem) (hte : E.ti elem = some te) {base : Option Addr} {dl c : Nat} {d2 : Value} (hd : VR ρ (.slice base dl c) d2) {b o n c' : Nat} {x2 : Value}
    (hx : VR ρ (.slice (some ⟨b, o, none⟩) n c') x2) {l : List Value} (hl : loadN s b o (min n dl * te.size) = some l) (hs : match base with
      | some ⟨d, p, none⟩ => storeN s d p l = some s'
      | none => s' = s
      | _ => False) (at_ : Array TypeId) (ty : TypeId) (h0 : at_[0]? = some t) :
    ∃ w', (Builtin.copy_ at_ ty #[d2, x2]).run P w = .ok (goInt (min n dl : Nat)) w' ∧ HR ρ s' w' ∧ Ev ρ w ρ w' := by
  have hut := (hE.ti t ti ht).1
  rw [hu] at hut
  have hsz := (hE.ti _ _ hte).2.1
  obtain ⟨r, o2, c2, hr, rfl, hcase⟩ := hx.slice_inv
  have hcells : ∃ m, VL ρ l m ∧ (Builtin.firstCells te.size (min n dl) (.slice (some ⟨r.blk, o2, none⟩) n c2)).run P w = .ok m.toArray w := by
    rcases hcase with ⟨rfl, _⟩ | ⟨rfl, _, _, _⟩ | ⟨rfl, _, _, _⟩
    · obtain ⟨m, hm, hrun⟩ := loadCells_ok (P := P) h hr hl
      exact ⟨m, hm, by simpa [Builtin.firstCells] using hrun⟩
    · obtain ⟨m, hm, hrun⟩ := loadCells_ok (P := P) h hr hl
      exact ⟨m, hm, by simpa [Builtin.firstCells] using hrun⟩
    · simp [loadN] at hl
      subst hl
      exact ⟨[], .nil, by simp [Builtin.firstCells, loadCells, loadCellsFrom]⟩
  obtain ⟨m, hm, hrun⟩ := hcells
  have hmin : Nat.min n dl = min n dl := rfl
  cases base with
  | none =>
    have := hd.nils_inv
    subst this
    simp only at hs
    subst hs
    refine ⟨w, ?_, h, Ev.refl ρ w⟩
    unfold Builtin.copy_
    simp only [h0]
    simp [hut, Builtin.lenOf, hsz, hmin, hrun]
  | some a =>
    obtain ⟨d, p, sp⟩ := a
    cases sp with
    | some q => exact hs.elim
    | none =>
      simp only at hs
      obtain ⟨r', o3, c3, hr', rfl, hcase'⟩ := hd.slice_inv
      have hst : ∃ w', (storeCells ⟨r'.blk, o3, none⟩ m 0).run P w = .ok () w' ∧ HR ρ s' w' ∧ Ev ρ w ρ w' := by
        rcases hcase' with ⟨rfl, _⟩ | ⟨rfl, _, _, _⟩ | ⟨rfl, _, _, _⟩
        · exact storeN_ok (P := P) hr' l m s s' w p 0 h hm hs
        · exact storeN_ok (P := P) hr' l m s s' w p 0 h hm hs
        · simp [loadN] at hl
          subst hl
          cases hm
          simp [storeN] at hs
          subst hs
          exact ⟨w, by simp [storeCells], h, Ev.refl ρ w⟩
      obtain ⟨w', k1, k2, k3⟩ := hst
      refine ⟨w', ?_, k2, k3⟩
      unfold Builtin.copy_
      simp only [h0]
      simp [hut, Builtin.lenOf, hsz, hmin, hrun, k1]

theorem len_pair {l : List Operand} {ev : Operand → Value} {x y : Value} (h : evs ev l = [x, y]) : ∃ p q, l = [p, q] ∧ ev p = x ∧ ev q = y := by
  match l, h with
  | [p, q], h => simp [evs] at h; exact ⟨p, q, rfl, h.1, h.2⟩
  | [], h => simp [evs] at h
  | [_], h => simp [evs] at h
  | _ :: _ :: _ :: _, h => simp [evs] at h
theorem len_one {l : List Operand} {ev : Operand → Value} {x : Value} (h : evs ev l = [x]) : ∃ p, l = [p] ∧ ev p = x := by
  match l, h with
  | [p], h => simp [evs] at h; exact ⟨p, rfl, h⟩
  | [], h => simp [evs] at h
  | _ :: _ :: _, h => simp [evs] at h

theorem ex_builtin (hE : EnvOK P E) (h : HR ρ s w) {b : Builtin} {at_ : Array TypeId} {ty : TypeId} {cs : Array Bool} {args : Array Operand} {ev ev2 : Operand → Value} (hev : ∀ x ∈ args.toList, VR ρ (ev x) (ev2 x)) (hb : Can.builtin E b at_ (evs ev args.toList) s = some (nx, s')) :
    Does P E ρ w s' nx (Go.builtin b at_ ty cs (args.map ev2)) := by
  unfold Can.builtin at hb
  split at hb
  · -- len
    split at hb
    · rename_i hargs
      obtain ⟨p, hp, he⟩ := len_one hargs
      have hv := hev p (by rw [hp]; simp)
      rw [he] at hv
      obtain ⟨b2, c2, h2⟩ := hv.slice_len
      have harr : args.map ev2 = #[ev2 p] := by apply Array.ext'; simp [hp]
      split at hb
      · rename_i t ht
        split at hb
        · rename_i elem z1 z2 z3 z4 hti
          obtain ⟨rfl, rfl⟩ := val_some hb
          have hut := (hE.ti t _ hti).1
          simp only at hut
          refine does_value h (u := goInt _) ?_ (.int _ _)
          rw [harr, h2]
          unfold Builtin.len_
          simp only [ht]
          simp [hut]
        · cases hb
      · cases hb
    · rename_i z hargs
      obtain ⟨p, hp, he⟩ := len_one hargs
      have hv := hev p (by rw [hp]; simp)
      rw [he] at hv
      have h2 := hv.string_inv
      have harr : args.map ev2 = #[ev2 p] := by apply Array.ext'; simp [hp]
      split at hb
      · rename_i t ht
        split at hb
        · rename_i z1 z2 z3 z4 hti
          obtain ⟨rfl, rfl⟩ := val_some hb
          have hut := (hE.ti t _ hti).1
          simp only at hut
          refine does_value h (u := goInt _) ?_ (.int _ _)
          rw [harr, h2]
          unfold Builtin.len_
          simp only [ht]
          simp [hut]
        · cases hb
      · cases hb
    · rename_i hargs
      obtain ⟨p, hp, he⟩ := len_one hargs
      have hv := hev p (by rw [hp]; simp)
      rw [he] at hv
      have h2 := hv.nilm_inv
      have harr : args.map ev2 = #[ev2 p] := by apply Array.ext'; simp [hp]
      split at hb
      · rename_i t ht
        split at hb
        · rename_i kt elem z1 z2 z3 z4 hti
          obtain ⟨rfl, rfl⟩ := val_some hb
          have hut := (hE.ti t _ hti).1
          simp only at hut
          refine does_value h (u := goInt _) ?_ (.int _ _)
          rw [harr, h2]
          unfold Builtin.len_
          simp only [ht]
          simp [hut]
        · cases hb
      · cases hb
    · rename_i r hargs
      obtain ⟨p, hp, he⟩ := len_one hargs
      have hv := hev p (by rw [hp]; simp)
      rw [he] at hv
      obtain ⟨q, hq, h2⟩ := hv.map_inv
      have harr : args.map ev2 = #[ev2 p] := by apply Array.ext'; simp [hp]
      split at hb
      · rename_i t ht
        split at hb
        · rename_i kt elem z1 z2 z3 z4 hti
          split at hb
          · rename_i es clk hg
            obtain ⟨rfl, rfl⟩ := val_some hb
            obtain ⟨es2, hw, hes⟩ := getMap_ok h hg hq
            have hgo := run_getObj_of (P := P) hw (by simp)
            have hut := (hE.ti t _ hti).1
            simp only at hut
            refine does_value h (u := goInt es2.size) ?_ (by rw [hes.length]; simp; exact .int _ _)
            rw [harr, h2]
            unfold Builtin.len_
            simp only [ht]
            simp [hut, hgo]
          · cases hb
        · cases hb
      · cases hb
    · cases hb
  · -- append
    split at hb
    · rename_i sl x hargs
      obtain ⟨p, q, hp, he1, he2⟩ := len_pair hargs
      have hv1 := hev p (by rw [hp]; simp)
      have hv2 := hev q (by rw [hp]; simp)
      rw [he1] at hv1
      rw [he2] at hv2
      have harr : args.map ev2 = #[ev2 p, ev2 q] := by apply Array.ext'; simp [hp]
      split at hb
      · rename_i t u ht hu
        split at hb
        · cases hb
        · rename_i ti hti hni
          split at hb
          · cases hb
          · rename_i v s1 ha
            obtain ⟨rfl, rfl⟩ := val_some hb
            obtain ⟨ρ', v2, w', k1, k2, k3, k4⟩ := append_ok (P := P) hE h hv1 hv2 at_ ty ht hu (hE.ti u ti hni).1 (fun k hk => by
              obtain ⟨u', a1, a2, a3, a4⟩ := ti
              simp only at hk
              subst hk
              exact hti _ _ _ _ _ rfl) ha
            exact ⟨ρ', .value v2, w', by rw [harr]; simp [Go.builtin, k1], k2, k3, k4⟩
        · cases hb
      · cases hb
    · cases hb
  · -- copy
    split at hb
    · rename_i base dl c x hargs
      obtain ⟨p, q, hp, he1, he2⟩ := len_pair hargs
      have hv1 := hev p (by rw [hp]; simp)
      have hv2 := hev q (by rw [hp]; simp)
      rw [he1] at hv1
      rw [he2] at hv2
      have harr : args.map ev2 = #[ev2 p, ev2 q] := by apply Array.ext'; simp [hp]
      split at hb
      · rename_i t ht
        split at hb
        · rename_i elem z1 z2 z3 z4 hti
          split at hb
          · rename_i te hte
            split at hb
            · rename_i b o n c'
              rw [fN_eq] at hb
              split at hb
              · cases hb
              · rename_i l hl
                split at hb
                · rename_i d pp
                  split at hb
                  · rename_i s1 hs1
                    obtain ⟨rfl, rfl⟩ := val_some hb
                    obtain ⟨w', k1, k2, k3⟩ := ex_copy (P := P) hE h hti rfl hte hv1 hv2 hl hs1 at_ ty ht
                    exact ⟨ρ, .value (goInt (min n dl : Nat)), w', by rw [harr]; simp [Go.builtin, k1], .int _ _, k2, k3⟩
                  · cases hb
                · obtain ⟨rfl, rfl⟩ := val_some hb
                  obtain ⟨w', k1, k2, k3⟩ := ex_copy (P := P) hE h hti rfl hte hv1 hv2 hl rfl at_ ty ht
                  exact ⟨ρ, .value (goInt (min n dl : Nat)), w', by rw [harr]; simp [Go.builtin, k1], .int _ _, k2, k3⟩
                · cases hb
            · rename_i n' c'
              split at hb
              · rename_i h0
                have h0 := beq_true.1 h0
                subst h0
                obtain ⟨rfl, rfl⟩ := val_some hb
                have hx2 := hv2.nils_inv
                obtain ⟨b2, c2, hd2⟩ := hv1.slice_len
                have hut := (hE.ti t _ hti).1
                simp only at hut
                refine does_value h (u := goInt 0) ?_ (.int _ _)
                rw [harr, hx2, hd2]
                unfold Builtin.copy_
                simp only [ht]
                have hmin : Nat.min 0 dl = 0 := Nat.zero_min dl
                cases b2 <;> simp [hut, Builtin.lenOf, (hE.ti _ _ hte).2.1 w, hmin, Builtin.firstCells, storeCells]
              · cases hb
            · cases hb
          · cases hb
        · cases hb
      · cases hb
    · cases hb
  · -- min
    split at hb
    · rename_i k x l hargs
      split at hb
      · rename_i m hm
        obtain ⟨rfl, rfl⟩ := val_some hb
        have hvl := evs_VL args.toList hev
        rw [hargs] at hvl
        cases hl : args.toList.map ev2 with
        | nil => rw [hl] at hvl; cases hvl
        | cons y m2 =>
          rw [hl] at hvl
          cases hvl with
          | cons hy hm2 =>
            have := hy.int_inv
            subst this
            refine does_value h (u := .int k m) ?_ (.int _ _)
            have : (args.map ev2).toList = .int k x :: m2 := by simpa using hl
            simp only [Builtin.min_, this]
            exact minI_ok l m2 k x m hm2 hm
      · cases hb
    · cases hb
  · -- max
    split at hb
    · rename_i k x l hargs
      split at hb
      · rename_i m hm
        obtain ⟨rfl, rfl⟩ := val_some hb
        have hvl := evs_VL args.toList hev
        rw [hargs] at hvl
        cases hl : args.toList.map ev2 with
        | nil => rw [hl] at hvl; cases hvl
        | cons y m2 =>
          rw [hl] at hvl
          cases hvl with
          | cons hy hm2 =>
            have := hy.int_inv
            subst this
            refine does_value h (u := .int k m) ?_ (.int _ _)
            have : (args.map ev2).toList = .int k x :: m2 := by simpa using hl
            simp only [Builtin.max_, this]
            exact maxI_ok l m2 k x m hm2 hm
      · cases hb
    · cases hb
  · cases hb

end Go.Can
