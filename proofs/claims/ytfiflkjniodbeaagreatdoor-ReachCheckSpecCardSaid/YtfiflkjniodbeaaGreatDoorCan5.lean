/- every operation is sound. -/
import Derived.Test.YtfiflkjniodbeaaGreatDoorCan4
import Derived.AtR
import Derived.Orders
/-
  THE CANONICAL INTERPRETER'S SOUNDNESS, seventeenth part: one operation, whole.
-/
namespace Go.Can
variable {P : Program} {E : Env} {ρ : Ren} {s s' : St} {w : World} {nx : Nx}

theorem opts_of {ev ev2 : Operand → Value} {a : Option Operand} (h : ∀ x, a = some x → VR ρ (ev x) (ev2 x)) : Opts ρ (a.map ev) (a.map ev2) := by
  cases a with
  | none => exact ⟨fun v hv => (by simp at hv), fun _ => rfl⟩
  | some x => exact ⟨fun v hv => by simp at hv; subst hv; exact ⟨_, rfl, h x rfl⟩, fun hh => by simp at hh⟩

theorem parts_F2 {ev ev2 : Operand → Value} : ∀ (l : List (Nat × Operand)), (∀ p ∈ l, VR ρ (ev p.2) (ev2 p.2)) → F2 (fun p q : Nat × Value => p.1 = q.1 ∧ VR ρ p.2 q.2) (l.map fun p => (p.1, ev p.2)) (l.map fun p => (p.1, ev2 p.2))
  | [], _ => .nil
  | p :: l, h => .cons ⟨rfl, h p (by simp)⟩ (parts_F2 l fun q hq => h q (by simp [hq]))

theorem ex_call (hE : EnvOK P E) (h : HR ρ s w) {c : Call} {ty : TypeId} {ev ev2 : Operand → Value} (hev : ∀ x ∈ c.operands.toList, VR ρ (ev x) (ev2 x)) (hx : (match c.callee with
    | .builtin b => Can.builtin E b c.argTypes (evs ev c.args.toList) s
    | .invoke _ _ => none
    | .value f => match ev f with
      | .func (.func g) first cap => callF E g (first.toList ++ evs ev c.args.toList ++ cap.toList) s
      | .func (.yield l) first _ => match s.heap.get l with
        | some ⟨.loop _ _ fn tmps n params as body d, _, _, _⟩ =>
          match Nat.beq (first.size + c.args.size) params.size with
          | true => match bindParams (params.toList.zip (first.toList ++ evs ev c.args.toList)) n tmps with
            | none => none
            | some tmps => some (.round l fn tmps n as body d, s)
          | false => none
        | _ => none
      | _ => none) = some (nx, s')) : Does P E ρ w s' nx (do let d ← resolve ev2 c ty; invoke d.target d.args) := by
  have hargs : ∀ x ∈ c.args.toList, VR ρ (ev x) (ev2 x) := fun x hx => hev x (by simp [Call.operands, Array.mem_toList_iff.1 hx])
  have hvl := evs_VL c.args.toList hargs
  split at hx
  · rename_i b hc
    unfold resolve
    simp only [hc]
    exact ex_builtin (ty := ty) hE h hargs hx
  · cases hx
  · rename_i f hc
    have hf := hev f (by simp [Call.operands, hc])
    split at hx
    · rename_i g first cap hef
      rw [hef] at hf
      obtain ⟨g2, y, d, he2, hg2, hy, hd⟩ := hf.func_inv
      cases hg2
      have := ex_callF (args2 := y ++ c.args.map ev2 ++ d) hE h (by simpa using (hy.append hvl).append hd) hx
      obtain ⟨ρ', nx2, w', k1, k2, k3, k4⟩ := this
      refine ⟨ρ', nx2, w', ?_, k2, k3, k4⟩
      unfold resolve
      simp only [hc, he2, Deferred.ofValue]
      simpa [invoke] using k1
    · rename_i l first cap hef
      rw [hef] at hf
      obtain ⟨g2, y, d, he2, hg2, hy, hd⟩ := hf.func_inv
      cases hg2
      rename_i r hr
      split at hx
      · rename_i st pe fn tmps n params as body dd z1 z2 z3 hk
        split at hx
        · rename_i hsz
          have hsz := beq_true.1 hsz
          split at hx
          · cases hx
          · rename_i tmps' hbp
            cases hx
            obtain ⟨r', hr', _, _, _, hor⟩ := h.live l _ hk
            rw [hr] at hr'; cases hr'
            simp only [OR] at hor
            obtain ⟨t2, q, hq, hw, htr⟩ := hor
            have hgo := run_getObj_of (P := P) hw (by simp)
            have hyl := hy.length
            have hpl := hvl.length
            simp at hyl
            have htr' := bindParams_ok _ _ n tmps tmps' t2 (zip_F2 (ps := params.toList) (hy.append hvl)) htr hbp
            refine ⟨ρ, .round r.blk fn _ as body, w, ?_, ⟨⟨r, hr, rfl⟩, rfl, htr', rfl, rfl, rfl⟩, h, Ev.refl ρ w⟩
            unfold resolve
            simp only [hc, he2, Deferred.ofValue]
            simp only [Sem.run_bind, Sem.run_pure, Result.andThen_ok, invoke, Instr.yield, Instr.getLoop, hgo]
            rw [if_neg (by simp [← hyl]; omega)]
            simp only [Sem.run_pure]
            congr 2
            rw [← Array.foldl_toList]
            simp [Array.toList_zip]
        · cases hx
      · cases hx
    · cases hx

set_option maxHeartbeats 1000000 in
theorem exec_ok (hE : EnvOK P E) (h : HR ρ s w) {o : Oper} {ev ev2 : Operand → Value} (hev : ∀ x ∈ o.op.operands.toList, VR ρ (ev x) (ev2 x)) (hx : exec E ev o s = some (nx, s')) : Does P E ρ w s' nx (execOp ev2 o) := by
  unfold exec at hx
  unfold execOp
  split at hx
  · rename_i x hop  -- move
    obtain ⟨rfl, rfl⟩ := val_some hx
    rw [hop]
    exact does_pure h (hev x (by simp [hop, Op.operands]))
  · rename_i x hop  -- assign
    obtain ⟨rfl, rfl⟩ := val_some hx
    rw [hop]
    exact does_pure h (hev x (by simp [hop, Op.operands]))
  · rename_i c a b hop  -- pick
    have hc := hev c (by simp [hop, Op.operands])
    split at hx
    · rename_i hec
      rw [hec] at hc
      obtain ⟨rfl, rfl⟩ := val_some hx
      rw [hop]
      refine ⟨ρ, .value (ev2 a), w, ?_, hev a (by simp [hop, Op.operands]), h, Ev.refl ρ w⟩
      simp [hc.bool_inv, asBool]
    · rename_i hec
      rw [hec] at hc
      obtain ⟨rfl, rfl⟩ := val_some hx
      rw [hop]
      refine ⟨ρ, .value (ev2 b), w, ?_, hev b (by simp [hop, Op.operands]), h, Ev.refl ρ w⟩
      simp [hc.bool_inv, asBool]
    · cases hx
  · rename_i e hop  -- alloc
    split at hx
    · cases hx
    · rename_i ti hti
      rw [fL_eq] at hx
      split at hx
      · cases hx
      · rename_i id s1 hn
        cases hx
        rw [hop]
        exact ex_alloc hE h hti hn
  · rename_i e x hop  -- box
    split at hx
    · cases hx
    · rename_i hd
      rw [fL_eq] at hx
      split at hx
      · cases hx
      · rename_i id s1 hn
        cases hx
        rw [hop]
        exact ex_box h (hev x (by simp [hop, Op.operands])) hd hn
  · rename_i t parts hop  -- build
    have hparts : ∀ p ∈ parts.toList, VR ρ (ev p.2) (ev2 p.2) := fun p hp => hev p.2 (by simp [hop, Op.operands]; exact ⟨p.1, Array.mem_toList_iff.1 hp⟩)
    have hq : F2 (fun p q : Nat × Value => p.1 = q.1 ∧ VR ρ p.2 q.2) (parts.map fun p => (p.1, ev p.2)).toList (parts.map fun p => (p.1, ev2 p.2)).toList := by simpa using parts_F2 parts.toList hparts
    split at hx
    · cases hx
    · rename_i ti hti
      split at hx
      · rename_i fields hu
        split at hx
        · cases hx
        · rename_i pl hpl
          split at hx
          · cases hx
          · rename_i l hl
            cases hx
            rw [hop]
            exact ex_build hE h hq hti (by rw [hu]; simp only [hpl]; simpa using hl)
      · rename_i n elem hu
        split at hx
        · cases hx
        · rename_i te hte
          split at hx
          · cases hx
          · rename_i l hl
            cases hx
            rw [hop]
            exact ex_build hE h hq hti (by rw [hu]; simp only [hte]; simpa using hl)
      · cases hx
  · rename_i t len parts hop  -- buildSlice
    have hparts : ∀ p ∈ parts.toList, VR ρ (ev p.2) (ev2 p.2) := fun p hp => hev p.2 (by simp [hop, Op.operands]; exact ⟨p.1, Array.mem_toList_iff.1 hp⟩)
    have hq : F2 (fun p q : Nat × Value => p.1 = q.1 ∧ VR ρ p.2 q.2) (parts.map fun p => (p.1, ev p.2)).toList (parts.map fun p => (p.1, ev2 p.2)).toList := by simpa using parts_F2 parts.toList hparts
    split at hx
    · rename_i elem z1 z2 z3 z4 hti
      split at hx
      · cases hx
      · rename_i te hte
        split at hx
        · rename_i hsm hzs
          split at hx
          · cases hx
          · rename_i l hl
            split at hx
            · cases hx
            · rename_i id s1 hn
              cases hx
              rw [hop]
              exact ex_buildSlice hE h hq hti rfl hte (ble_true.1 hsm) (beq_true.1 hzs) (by simpa using hl) hn
        · cases hx
    · cases hx
  · rename_i t a hop  -- load
    split at hx
    · cases hx
    · rename_i v hl
      cases hx
      rw [hop]
      exact ex_load hE h (hev a (by simp [hop, Op.operands])) hl
  · rename_i t a x hop  -- store
    split at hx
    · cases hx
    · rename_i s1 hl
      cases hx
      rw [hop]
      exact ex_store hE h (hev a (by simp [hop, Op.operands])) (hev x (by simp [hop, Op.operands])) hl
  · rename_i x hop  -- nilCheck
    have hv := hev x (by simp [hop, Op.operands])
    split at hx
    · rename_i a hea
      cases hx
      rw [hop]
      rw [hea] at hv
      have : ∃ b, ev2 x = .pointer (some b) := by
        generalize ev2 x = u at hv
        cases hv with | ptr e => exact ⟨_, rfl⟩
      obtain ⟨b, hb⟩ := this
      rw [hb] at hv
      simp only [hb]
      exact does_pure h hv
    · rename_i f y c hea
      cases hx
      rw [hop]
      rw [hea] at hv
      obtain ⟨g2, y2, d2, hb, hg2, _, _⟩ := hv.func_inv
      cases hg2
      rw [hb] at hv
      simp only [hb]
      exact does_pure h hv
    · cases hx
  · rename_i op t x y z hop  -- binOp
    split at hx
    · cases hx
    · rename_i v hb
      obtain ⟨rfl, rfl⟩ := val_some hx
      rw [hop]
      exact ex_binOp hE h x y (hev x (by simp [hop, Op.operands])) (hev y (by simp [hop, Op.operands])) hb
  · rename_i op z x hop  -- unOp
    have hv := hev x (by simp [hop, Op.operands])
    split at hx
    · rename_i k n he
      obtain ⟨rfl, rfl⟩ := val_some hx
      rw [hop]
      rw [he] at hv
      have := hv.int_inv
      exact does_value h (u := .int k (k.wrap (0 - n))) (by simp [this, Op.unary, Op.intArith]) (.int _ _)
    · rename_i b he
      obtain ⟨rfl, rfl⟩ := val_some hx
      rw [hop]
      rw [he] at hv
      have := hv.bool_inv
      exact does_value h (u := .bool !b) (by simp [this, Op.unary]) (.bool _)
    · rename_i k n he
      split at hx
      · rename_i v hb
        obtain ⟨rfl, rfl⟩ := val_some hx
        rw [hop]
        rw [he] at hv
        have := hv.int_inv
        simp [intBin] at hb
        subst hb
        exact does_value h (by simp [this, Op.unary, Op.intBits]) (.int _ _)
      · cases hx
    · cases hx
  · rename_i src dst x hop  -- convert
    have hv := hev x (by simp [hop, Op.operands])
    split at hx
    · rename_i a b ha hb
      have hua := (hE.ti _ _ ha).1
      have hub := (hE.ti _ _ hb).1
      split at hx
      · rename_i k1 k k2 n e1 e2 he
        obtain ⟨rfl, rfl⟩ := val_some hx
        rw [hop]
        rw [he] at hv
        have := hv.int_inv
        rw [e1] at hua
        rw [e2] at hub
        exact does_value h (u := .int k (k.wrap n)) (by simp [convert, this, hua, hub, Conv.intToInt]) (.int _ _)
      · rename_i z e1 e2 he
        obtain ⟨rfl, rfl⟩ := val_some hx
        rw [hop]
        rw [he] at hv
        have := hv.string_inv
        rw [e1] at hua
        rw [e2] at hub
        exact does_value h (u := .string z) (by simp [convert, this, hua, hub]) (.string _)
      · cases hx
    · cases hx
  · rename_i t x hop  -- makeInterface
    split at hx
    · cases hx
    · rename_i ti hti
      have hut := (hE.ti _ _ hti).1
      split at hx
      · cases hx
      · rename_i hn
        cases hx
        rw [hop]
        refine does_value h (u := .iface t (ev2 x)) ?_ (.iface (hev x (by simp [hop, Op.operands])))
        simp only [Instr.makeInterface, Sem.run_bind, hut, Result.andThen_ok]
        cases hd : ti.u <;> first | rfl | exact absurd hd (hn _)
  · rename_i fn first cap hop  -- makeFunc
    split at hx
    · rename_i g
      obtain ⟨rfl, rfl⟩ := val_some hx
      rw [hop]
      have h1 : VL ρ (evs ev first.toList) (first.map ev2).toList := by simpa using evs_VL first.toList fun x hx => hev x (by simp [hop, Op.operands, Array.mem_toList_iff.1 hx])
      have h2 : VL ρ (evs ev cap.toList) (cap.map ev2).toList := by simpa using evs_VL cap.toList fun x hx => hev x (by simp [hop, Op.operands, Array.mem_toList_iff.1 hx])
      refine does_value h (u := .func (.func g) (first.map ev2) (cap.map ev2)) rfl ?_
      have k1 := arr_of_vl (x := ⟨evs ev first.toList⟩) h1
      have k2 := arr_of_vl (x := ⟨evs ev cap.toList⟩) h2
      exact .func (.same g) k1.1 k1.2 k2.1 k2.2
    · cases hx
  · rename_i t r hop  -- makeMap
    split at hx
    · split at hx
      · cases hx
      · rename_i id s1 hn
        cases hx
        rw [hop]
        exact ex_makeMap h hn
    · cases hx
  · rename_i t l c hop  -- makeSlice
    split at hx
    · rename_i elem z1 z2 z3 z4 hti
      split at hx
      · cases hx
      · rename_i te hte
        split at hx
        · rename_i k1 l' k2 c' hel hec
          have hl := hev l (by simp [hop, Op.operands])
          have hc := hev c (by simp [hop, Op.operands])
          rw [hel] at hl
          rw [hec] at hc
          split at hx
          · rename_i g1 g2 g3 g4 g5
            rw [decide_eq_true_eq] at g1 g2 g3
            rw [fL_eq] at hx
            split at hx
            · cases hx
            · rename_i id s1 hn
              obtain ⟨rfl, rfl⟩ := val_some hx
              rw [hop]
              simp only [hl.int_inv, hc.int_inv]
              exact ex_makeSlice hE h hti rfl hte g1 g2 g3 (ble_true.1 g4) (beq_true.1 g5) hn
          · cases hx
        · cases hx
    · cases hx
  · rename_i t x lo hi mx hop  -- slice
    have hv := hev x (by simp [hop, Op.operands])
    have hlo : Opts ρ (lo.map ev) (lo.map ev2) := opts_of fun y hy => hev y (by simp [hop, Op.operands, hy])
    have hhi : Opts ρ (hi.map ev) (hi.map ev2) := opts_of fun y hy => hev y (by simp [hop, Op.operands, hy])
    have hmx : Opts ρ (mx.map ev) (mx.map ev2) := opts_of fun y hy => hev y (by simp [hop, Op.operands, hy])
    split at hx
    · cases hx
    · rename_i ti hti
      split at hx
      · rename_i z hu hex
        rw [hex] at hv
        split at hx
        · cases hx
        · split at hx
          · cases hx
          · rename_i l hh m hb
            obtain ⟨rfl, rfl⟩ := val_some hx
            rw [hop]
            simp only [hv.string_inv]
            exact ex_slice_string hE h hti hu hlo hhi hb
      · rename_i elem len cap hu hex
        rw [hex] at hv
        split at hx
        · cases hx
        · rename_i l hh m hb
          split at hx
          · cases hx
          · rename_i te hte
            obtain ⟨rfl, rfl⟩ := val_some hx
            rw [hop]
            simp only [hv.nils_inv]
            exact ex_slice_nil hE h hti hu hte hlo hhi hmx hb
      · rename_i elem b oo len cap hu hex
        rw [hex] at hv
        split at hx
        · cases hx
        · rename_i l hh m hb
          split at hx
          · cases hx
          · rename_i te hte
            split at hx
            · cases hx
            · rename_i k hk
              split at hx
              · rename_i hf
                obtain ⟨rfl, rfl⟩ := val_some hx
                rw [hop]
                exact ex_slice hE h hti hu hte hv hlo hhi hmx hb hk (.inl ⟨hf, rfl⟩)
              · rename_i f hf
                split at hx
                · rename_i hc
                  simp only [Bool.and_eq_true, beq_true, ble_true] at hc
                  obtain ⟨rfl, rfl⟩ := val_some hx
                  rw [hop]
                  refine ex_slice hE h hti hu hte hv hlo hhi hmx hb hk (.inr ⟨⟨f, hf⟩, hc.1, hc.2, ?_⟩)
                  cases mx <;> simp
                · cases hx
      · rename_i n elem b oo hu hex
        rw [hex] at hv
        split at hx
        · cases hx
        · rename_i l hh m hb
          split at hx
          · cases hx
          · rename_i te hte
            obtain ⟨rfl, rfl⟩ := val_some hx
            rw [hop]
            exact ex_slice_array hE h hti hu hte hv hlo hhi hmx hb
      · cases hx
  · rename_i t x f hop  -- fieldAddr
    have hv := hev x (by simp [hop, Op.operands])
    split at hx
    · cases hx
    · rename_i ti hti
      split at hx
      · rename_i fields b oo hu hex
        rw [hex] at hv
        split at hx
        · cases hx
        · rename_i fd hfd
          split at hx
          · cases hx
          · rename_i tf htf
            split at hx
            · cases hx
            · rename_i hz
              obtain ⟨rfl, rfl⟩ := val_some hx
              rw [hop]
              exact ex_fieldAddr hE h hti hu hv hfd htf (beq_false.1 hz)
      · cases hx
  · rename_i t x f hop  -- field
    have hv := hev x (by simp [hop, Op.operands])
    split at hx
    · cases hx
    · rename_i ti hti
      split at hx
      · rename_i fields cs hu hex
        rw [hex] at hv
        obtain ⟨ds, hds, hc⟩ := hv.agg_inv
        split at hx
        · cases hx
        · rename_i fd hfd
          split at hx
          · cases hx
          · rename_i v hp
            obtain ⟨rfl, rfl⟩ := val_some hx
            rw [hop]
            simp only [hds]
            exact ex_field hE h hti hu hc hfd hp
      · cases hx
  · rename_i t x ix hop  -- indexAddr
    have hv := hev x (by simp [hop, Op.operands])
    have hi := hev ix (by simp [hop, Op.operands])
    split at hx
    · rename_i ti k i hti hei
      rw [hei] at hi
      split at hx
      · rename_i n elem b oo hu hex
        rw [hex] at hv
        split at hx
        · rename_i te hte g1 g2
          rw [decide_eq_true_eq] at g1 g2
          obtain ⟨rfl, rfl⟩ := val_some hx
          rw [hop]
          simp only [hi.int_inv]
          exact ex_indexAddr_array hE h hti hu hte hv g1 g2
        · cases hx
      · rename_i elem b oo len cap hu hex
        rw [hex] at hv
        split at hx
        · rename_i te hte g1 g2
          rw [decide_eq_true_eq] at g1 g2
          obtain ⟨rfl, rfl⟩ := val_some hx
          rw [hop]
          simp only [hi.int_inv]
          exact ex_indexAddr_slice hE h hti hu hte hv g1 g2
        · cases hx
      · cases hx
    · cases hx
  · rename_i t x ix hop  -- index
    have hv := hev x (by simp [hop, Op.operands])
    have hi := hev ix (by simp [hop, Op.operands])
    split at hx
    · rename_i ti k i hti hei
      rw [hei] at hi
      split at hx
      · rename_i n elem cs hu hex
        rw [hex] at hv
        obtain ⟨ds, hds, hc⟩ := hv.agg_inv
        split at hx
        · rename_i te hte g1 g2
          rw [decide_eq_true_eq] at g1 g2
          split at hx
          · cases hx
          · rename_i v hp
            obtain ⟨rfl, rfl⟩ := val_some hx
            rw [hop]
            simp only [hi.int_inv, hds]
            exact ex_index_array hE h hti hu hte hc g1 g2 hp
        · cases hx
      · rename_i z hu hex
        rw [hex] at hv
        split at hx
        · rename_i b hb
          obtain ⟨rfl, rfl⟩ := val_some hx
          rw [hop]
          simp only [hi.int_inv, hv.string_inv]
          exact ex_index_string hE h hti hu hb
        · cases hx
      · cases hx
    · cases hx
  · rename_i t x ix ok hop  -- lookup
    have hv := hev x (by simp [hop, Op.operands])
    have hi := hev ix (by simp [hop, Op.operands])
    split at hx
    · rename_i kt elem z1 z2 z3 z4 hti
      split at hx
      · cases hx
      · rename_i te hte
        split at hx
        · cases hx
        · rename_i es hes
          split at hx
          · cases hx
          · rename_i r hr
            obtain ⟨rfl, rfl⟩ := val_some hx
            split at hr
            · rename_i hkey
              rw [hop]
              refine ex_lookup hE h hti rfl hte hv hi hkey ?_ hr ok
              split at hes
              · rename_i he; cases hes; exact .inl ⟨he, rfl⟩
              · rename_i rr he
                split at hes
                · rename_i es' clk hg
                  cases hes
                  exact .inr ⟨rr, clk, he, hg⟩
                · cases hes
              · cases hes
            · cases hr
    · cases hx
  · rename_i t m k x hop  -- mapUpdate
    split at hx
    · cases hx
    · rename_i s1 hp
      cases hx
      rw [hop]
      exact ex_mapUpdate hE h (hev m (by simp [hop, Op.operands])) (hev k (by simp [hop, Op.operands])) (hev x (by simp [hop, Op.operands])) hp
  · rename_i t m k x hop  -- insert
    split at hx
    · cases hx
    · rename_i s1 hp
      cases hx
      rw [hop]
      exact ex_mapUpdate hE h (hev m (by simp [hop, Op.operands])) (hev k (by simp [hop, Op.operands])) (hev x (by simp [hop, Op.operands])) hp
  · rename_i t m k hop  -- mapEntry
    have hm := hev m (by simp [hop, Op.operands])
    have hk := hev k (by simp [hop, Op.operands])
    split at hx
    · rename_i kt elem z1 z2 z3 z4 hti
      split at hx
      · cases hx
      · rename_i te hte
        split at hx
        · rename_i r hem hkey
          rw [hem] at hm
          split at hx
          · cases hx
          · rename_i es clk hg
            split at hx
            · cases hx
            · rename_i i v hf
              split at hx
              · cases hx
              · rename_i e he
                rw [setEntry_eq] at hx
                split at hx
                · cases hx
                · rename_i s1 hs
                  obtain ⟨rfl, rfl⟩ := val_some hx
                  rw [hop]
                  exact ex_mapEntry hE h hti rfl hte hm hk hkey hg hf ⟨e, he, rfl, hs⟩
            · rename_i hf
              rw [addEntry_eq, fN_eq] at hx
              split at hx
              · cases hx
              · rename_i s1 hs
                obtain ⟨rfl, rfl⟩ := val_some hx
                rw [hop]
                exact ex_mapEntry hE h hti rfl hte hm hk hkey hg hf ⟨rfl, hs⟩
        · cases hx
    · cases hx
  · rename_i t m st x hop  -- entryStore
    have hm := hev m (by simp [hop, Op.operands])
    have hst := hev st (by simp [hop, Op.operands])
    split at hx
    · rename_i r k born hem hes
      rw [hem] at hm
      rw [hes] at hst
      split at hx
      · cases hx
      · rename_i es clk hg
        split at hx
        · cases hx
        · rename_i i hi
          split at hx
          · cases hx
          · rename_i e he
            rw [setEntry_eq] at hx
            split at hx
            · cases hx
            · rename_i s1 hs
              cases hx
              rw [hop]
              simp only [hst.int_inv]
              exact ex_entryStore h hm (hev x (by simp [hop, Op.operands])) hg hi he hs
    · cases hx
  · rename_i t i hop  -- extract
    have hv := hev t (by simp [hop, Op.operands])
    split at hx
    · rename_i vs he
      rw [he] at hv
      obtain ⟨us, hus, hvl⟩ := hv.tuple_inv
      split at hx
      · rename_i v hvi
        obtain ⟨rfl, rfl⟩ := val_some hx
        rw [hop]
        obtain ⟨u, hu, hvu⟩ := hvl.get i v (by simpa using hvi)
        have hu' : us[i]? = some u := by simpa using hu
        exact does_value h (by simp [Instr.extract, hus, hu']) hvu
      · cases hx
    · cases hx
  · rename_i x z asserted ok hop  -- typeAssert
    have hv := hev x (by simp [hop, Op.operands])
    split at hx
    · cases hx
    · rename_i ti hti
      obtain ⟨hut, _, hz, hcl, _, _, _⟩ := hE.ti _ _ hti
      have hzz := closed_VR (ρ := ρ) 4 _ hcl
      split at hx
      · cases hx
      · rename_i t v he hn
        rw [he] at hv
        obtain ⟨u, hu, hvu⟩ := hv.iface_inv
        have hta : ∀ b : Bool, (Instr.typeAssert (.iface t u) z asserted b).run P w = (if t = asserted then (pure (if b then .tuple #[u, .bool true] else u) : Sem Value) else (do if b then pure (.tuple #[← zeroValue asserted, .bool false]) else runtimePanic (.typeAssertion (some z) (some t) asserted ""))).run P w := by
          intro b
          simp only [Instr.typeAssert, Sem.run_bind, hut, Result.andThen_ok]
        split at hx
        · rename_i h1
          obtain ⟨rfl, rfl⟩ := val_some hx
          rw [hop]
          simp only [hu]
          refine does_value h (u := .tuple #[u, .bool true]) ?_ (vl2 hvu (.bool _))
          rw [hta, if_pos (beq_true.1 h1)]; rfl
        · rename_i h1
          obtain ⟨rfl, rfl⟩ := val_some hx
          rw [hop]
          simp only [hu]
          refine does_value h (u := u) ?_ hvu
          rw [hta, if_pos (beq_true.1 h1)]; rfl
        · rename_i h1
          obtain ⟨rfl, rfl⟩ := val_some hx
          rw [hop]
          simp only [hu]
          refine does_value h (u := .tuple #[ti.zero, .bool false]) ?_ (vl2 hzz (.bool _))
          rw [hta, if_neg (beq_false.1 h1)]
          simp [hz]
        · cases hx
      · rename_i he hn
        rw [he] at hv
        split at hx
        · obtain ⟨rfl, rfl⟩ := val_some hx
          rw [hop]
          have hu : ev2 x = .nilIface := by generalize ev2 x = u at hv; cases hv; rfl
          simp only [hu]
          refine does_value h (u := .tuple #[ti.zero, .bool false]) ?_ (vl2 hzz (.bool _))
          simp only [Instr.typeAssert, Sem.run_bind, hut, Result.andThen_ok]
          cases hd : ti.u <;> first | exact absurd hd (hn _) | simp [hz]
        · cases hx
      · cases hx
  · rename_i c hop  -- call
    rw [hop]
    exact ex_call hE h (fun x hx => hev x (by simpa [hop, Op.operands] using hx)) hx
  · cases hx

end Go.Can

/-
  THE CANONICAL INTERPRETER'S SOUNDNESS, eighteenth part: activations; the operations of a region in their order.
-/
namespace Go.Can
variable {P : Program} {E : Env} {ρ : Ren} {s s' : St} {w : World} {nx : Nx}

def Mark (ρ : Ren) (m : Nat) (d : Deferred) : Prop := ∃ r, ρ m = some r ∧ d = { target := .collected r.blk, args := #[] }
structure AR (ρ : Ren) (a : A) (a2 : Act) : Prop where
  tmps : TR ρ a.tmps a.n a2.tmps
  marks : F2 (Mark ρ) a.marks a2.defers
theorem Mark.mono {ρ ρ' : Ren} (h : ρ.le ρ') {m d} (k : Mark ρ m d) : Mark ρ' m d := by
  obtain ⟨r, h1, h2⟩ := k; exact ⟨r, h _ _ h1, h2⟩
theorem AR.mono {ρ ρ' : Ren} (h : ρ.le ρ') {a a2} (k : AR ρ a a2) : AR ρ' a a2 := ⟨k.tmps.mono h, k.marks.mono fun _ _ => Mark.mono h⟩

theorem ev_ok {a : A} {a2 : Act} {x : Operand} (h : ∀ t, x = .tmp t → VR ρ ((a.tmps.get t).getD undef) (a2.tmps.getD t undef)) : VR ρ (a.ev x) (a2.eval x) := by
  cases x with
  | tmp t => exact h t rfl
  | const v =>
    simp only [A.ev, Act.eval]
    split
    · rename_i hc; exact closed_VR 4 v hc
    · exact .junk _
  | global g => exact .junk _
  | func f => exact .func (.same f) rfl (fun i u v hu _ => by simp at hu) rfl (fun i u v hu _ => by simp at hu)

def A.upd (a : A) (d : Option Tmp) (v : Value) : A :=
  match d with
  | none => a
  | some d => ⟨a.tmps.upd d v, a.n, a.marks⟩
theorem A.put_some {R : Type} {a : A} {d : Option Tmp} {v : Value} {k : A → Option R} {r : R} (h : a.put d v k = some r) : (∀ e, d = some e → e < a.n) ∧ k (a.upd d v) = some r := by
  unfold A.put at h
  split at h
  · refine ⟨fun e he => ?_, h⟩
    cases he
  · rename_i d'
    split at h
    · rename_i hb
      rw [T.put_eq] at h
      exact ⟨fun e he => by cases he; exact blt_true.1 hb, h⟩
    · cases h
theorem AR.put {a : A} {a2 : Act} (h : AR ρ a a2) {d : Option Tmp} (hd : ∀ e, d = some e → e < a.n) {v u : Value} (hv : VR ρ v u) : AR ρ (a.upd d v) (a2.put d u) := by
  cases d with
  | none => exact h
  | some d => exact ⟨h.tmps.put (hd d rfl) hv, h.marks⟩

theorem wanted_ok {ops : Array Oper} {a : A} {a2 : Act} {o : Oper} {t : Bool} (hw : wanted ops.toList a o = some t)
    (h : ∀ g b og d, o.guard = some (g, b) → ops[g]? = some og → og.dst = some d → VR ρ ((a.tmps.get d).getD undef) (a2.tmps.getD d undef)) : Region.wanted o (yielded ops a2.tmps) = t := by
  unfold wanted at hw
  unfold Region.wanted
  cases hg : o.guard with
  | none => rw [hg] at hw; cases hw; rfl
  | some p =>
    obtain ⟨g, b⟩ := p
    rw [hg] at hw
    simp only at hw ⊢
    split at hw
    · cases hw
    · rename_i og hog
      have hog' : ops[g]? = some og := by simpa using hog
      split at hw
      · cases hw
      · rename_i d hd
        have hv := h g b og d hg hog' hd
        unfold yielded
        simp only [hog', hd, Option.bind_some]
        have hbool : ∀ c, (a2.tmps.getD d undef) = .bool c → a2.tmps[d]? = some (.bool c) := by
          intro c hc
          cases hh : a2.tmps[d]? with
          | none => simp [hh, undef] at hc
          | some x => simp [hh] at hc; rw [hc]
        have htup : ∀ c, (a2.tmps.getD d undef) = .tuple c → a2.tmps[d]? = none ∨ a2.tmps[d]? = some (.tuple c) := by
          intro c hc
          cases hh : a2.tmps[d]? with
          | none => exact .inl rfl
          | some x => simp [hh] at hc; rw [hc]; exact .inr rfl
        split at hw
        · rename_i c hc
          rw [hc] at hv
          rw [hbool c hv.bool_inv]
          split at hw <;> cases hw <;> rfl
        · rename_i x hc
          rw [hc] at hv
          obtain ⟨y, hy, _⟩ := VR.tuple_inv hv
          cases hw
          rcases htup y hy with hh | hh <;> rw [hh] <;> rfl
        · rename_i hc
          rw [hc] at hv
          obtain ⟨y, hy, _⟩ := VR.tuple_inv hv
          cases hw
          rcases htup y hy with hh | hh <;> rw [hh] <;> rfl
        · cases hw

/-! ### the run of a list of operations, taken apart -/
inductive Run (E : Env) (n : Nat) (all : List Oper) : List Oper → A → St → List (A × St) → A → St → Prop
  | nil (a : A) (s : St) : Run E n all [] a s [] a s
  | skip {o l a s sn a' s'} : wanted all a o = some false → (∀ d, o.dst = some d → d < a.n) → Run E n all l (a.upd o.dst undef) s sn a' s' → Run E n all (o :: l) a s ((a, s) :: sn) a' s'
  | op {o l a s sn a' s' x s1 s2 v m} : wanted all a o = some true → exec E a.ev o s = some (x, s1) → m < n → go E m (.nx x) s1 = some (.val v, s2) → (∀ d, o.dst = some d → d < a.n) →
      Run E n all l (a.upd o.dst v) s2 sn a' s' → Run E n all (o :: l) a s ((a, s) :: sn) a' s'
theorem Run.mono {E : Env} {n n' : Nat} (hn : n ≤ n') {all l a s sn a' s'} (h : Run E n all l a s sn a' s') : Run E n' all l a s sn a' s' := by
  induction h with
  | nil a s => exact .nil a s
  | skip h1 h2 _ ih => exact .skip h1 h2 ih
  | op h1 h2 h3 h4 h5 _ ih => exact .op h1 h2 (Nat.lt_of_lt_of_le h3 hn) h4 h5 ih

theorem go_ops {all : List Oper} {draw : Bool} : ∀ (n : Nat) (l : List Oper) (a : A) (acc : List (A × St)) (s s' : St) (rs : Rs), go E n (.ops all l a acc draw) s = some (rs, s') →
    ∃ a' sn, rs = .acc a' (match draw with | true => sn.reverse ++ acc | false => acc) ∧ Run E n all l a s sn a' s' := by
  intro n
  induction n with
  | zero => intro l a acc s s' rs h; simp [go] at h
  | succ n ih =>
    intro l a acc s s' rs h
    cases l with
    | nil =>
      simp only [go] at h
      cases h
      refine ⟨a, [], ?_, .nil _ _⟩
      cases draw <;> rfl
    | cons o l =>
      simp only [go] at h
      split at h
      · cases h
      · rename_i hw
        obtain ⟨hd, h⟩ := A.put_some h
        obtain ⟨a', sn, h1, h2⟩ := ih _ _ _ _ _ _ h
        refine ⟨a', (a, s) :: sn, ?_, .skip hw hd (h2.mono (Nat.le_succ n))⟩
        rw [h1]
        cases draw <;> simp
      · rename_i hw
        split at h
        · cases h
        · rename_i x s1 hx
          split at h
          · rename_i v s2 hg
            obtain ⟨hd, h⟩ := A.put_some h
            obtain ⟨a', sn, h1, h2⟩ := ih _ _ _ _ _ _ h
            refine ⟨a', (a, s) :: sn, ?_, .op hw hx (Nat.lt_succ_self n) hg hd (h2.mono (Nat.le_succ n))⟩
            rw [h1]
            cases draw <;> simp
          · cases h

/-! ### one operation, in the machine -/
def after (P : Program) (fr : Frame) (cs : List Frame) : Next → World → Machine
  | .value v, w => lone (fr.finish v) cs w
  | .skip, w => lone (fr.finish undef) cs w
  | .enter f args, w => lone (Frame.enter P f args .normal) (fr :: cs) w
  | .round l f t as bd, w => lone (Frame.round l f t as bd .normal) (fr :: cs) w
  | _, w => lone fr cs w

theorem exec_no_defer {ev : Operand → Value} {o : Oper} {x : Nx} (h : exec E ev o s = some (x, s')) : ∀ c, o.op ≠ .defer c := by
  intro c hc
  unfold exec at h
  rw [hc] at h
  cases h

theorem step_after {b : Frame} {a2 : Act} {ops : Array Oper} {i : Nat} {rest : List Nat} {k : List Item} {cs : List Frame} {o : Oper} {x : Nx} {nx2 : Next} {w w1 : World} (ho : ops[i]? = some o)
    (hw : Region.wanted o (yielded ops a2.tmps) = true) (hd : ∀ c, o.op ≠ .defer c) (hr : (execOp a2.eval o).run P w = .ok nx2 w1) {ρ : Ren} (hn : NxR ρ x nx2) :
    step P (lone (b.atR a2 (.inRegion ops (i :: rest) :: k)) cs w) = .next (after P (b.atR a2 (.inRegion ops (i :: rest) :: k)) cs nx2 w1) := by
  have hg := stepGR_op (P := P) (b := b) (a := a2) (k := k) (cs := cs) (w := w) (rest := rest) ho hw
  rw [Oper.semAt_eq _ _ _ hd] at hg
  have hk : (match (b.atR a2 (.inRegion ops (i :: rest) :: k)).todo with | .call _ true _ _ :: _ => CallKind.wrapped | _ => .normal) = .normal := rfl
  cases x <;> cases nx2 <;> simp only [NxR] at hn <;> (refine step_lone_go ?_; rw [hg]; simp [stepG.apply, hr, Frame.atR])

def GoodNx (P : Program) (E : Env) (m : Nat) : Prop := ∀ x s v s', go E m (.nx x) s = some (.val v, s') → ∀ ρ w nx2, HR ρ s w → NxR ρ x nx2 → ∀ fr cs,
  ∃ ρ' u w', HR ρ' s' w' ∧ Ev ρ w ρ' w' ∧ VR ρ' v u ∧ Steps P (after P fr cs nx2 w) (lone (fr.finish u) cs w')

theorem op_step (hE : EnvOK P E) {a : A} {a2 : Act} {o : Oper} {x : Nx} {s1 s2 : St} {v : Value} (hx : exec E a.ev o s = some (x, s1)) (hm : ∀ ρ w nx2, HR ρ s1 w → NxR ρ x nx2 → ∀ fr cs,
      ∃ ρ' u w', HR ρ' s2 w' ∧ Ev ρ w ρ' w' ∧ VR ρ' v u ∧ Steps P (after P fr cs nx2 w) (lone (fr.finish u) cs w')) (h : HR ρ s w)
    (hev : ∀ t, .tmp t ∈ o.op.operands.toList → VR ρ ((a.tmps.get t).getD undef) (a2.tmps.getD t undef))
    {ops : Array Oper} {i : Nat} (ho : ops[i]? = some o) (hw : Region.wanted o (yielded ops a2.tmps) = true) (b : Frame) (rest : List Nat) (k : List Item) (cs : List Frame) :
    ∃ ρ' u w', HR ρ' s2 w' ∧ Ev ρ w ρ' w' ∧ VR ρ' v u ∧ Steps P (lone (b.atR a2 (.inRegion ops (i :: rest) :: k)) cs w) (lone (b.atR (a2.put o.dst u) (.inRegion ops rest :: k)) cs w') := by
  have hops : ∀ y ∈ o.op.operands.toList, VR ρ (a.ev y) (a2.eval y) := fun y hy => ev_ok fun t ht => hev t (ht ▸ hy)
  obtain ⟨ρ1, nx2, w1, hr, hn, h1, e1⟩ := exec_ok hE h hops hx
  obtain ⟨ρ2, u, w2, h2, e2, hv, hs⟩ := hm ρ1 w1 nx2 h1 hn (b.atR a2 (.inRegion ops (i :: rest) :: k)) cs
  refine ⟨ρ2, u, w2, h2, e1.trans e2, hv, .head (step_after ho hw (exec_no_defer hx) hr hn) ?_⟩
  rw [Frame.finish_atR, ho] at hs
  exact hs
theorem good_value {v : Value} {nx2 : Next} (h : HR ρ s w) (hn : NxR ρ (.value v) nx2) (fr : Frame) (cs : List Frame) :
    ∃ ρ' u w', HR ρ' s w' ∧ Ev ρ w ρ' w' ∧ VR ρ' v u ∧ Steps P (after P fr cs nx2 w) (lone (fr.finish u) cs w') := by
  cases nx2 <;> simp only [NxR] at hn
  · exact ⟨ρ, _, w, h, Ev.refl ρ w, hn, Steps.refl ..⟩
  · exact ⟨ρ, _, w, h, Ev.refl ρ w, hn, Steps.refl ..⟩

theorem ops_steps (hE : EnvOK P E) {n : Nat} (hm : ∀ m < n, GoodNx P E m) {ops : Array Oper} {l : List Oper} {a a' : A} {sn : List (A × St)} (hr : Run E n ops.toList l a s sn a' s') : ∀ (js : List Nat), F2 (fun o j => ops[j]? = some o) l js →
    ∀ (ρ : Ren) (w : World) (a2 : Act), HR ρ s w → AR ρ a a2 → ∀ (b : Frame) (k : List Item) (cs : List Frame),
    ∃ ρ' a2' w', HR ρ' s' w' ∧ Ev ρ w ρ' w' ∧ AR ρ' a' a2' ∧ Steps P (lone (b.atR a2 (.inRegion ops js :: k)) cs w) (lone (b.atR a2' k) cs w') := by
  induction hr with
  | nil a s =>
    intro js hj ρ w a2 h ha b k cs
    cases hj
    exact ⟨ρ, a2, w, h, Ev.refl ρ w, ha, .one stepR_region_end⟩
  | skip hw hd _ ih =>
    intro js hj ρ w a2 h ha b k cs
    cases hj with
    | cons ho hl =>
      have hwr := wanted_ok (a2 := a2) hw fun g b og d _ _ _ => ha.tmps.2.2 d
      obtain ⟨ρ', a2', w', h1, h2, h3, h4⟩ := ih _ hl ρ w _ h (ha.put hd VR.undef) b k cs
      refine ⟨ρ', a2', w', h1, h2, h3, .head (stepR_op_skip (by simp [ho, hwr])) ?_⟩
      simpa [ho] using h4
  | op hw hx hmn hgo hd _ ih =>
    intro js hj ρ w a2 h ha b k cs
    cases hj with
    | cons ho hl =>
      have hwr := wanted_ok (a2 := a2) hw fun g b og d _ _ _ => ha.tmps.2.2 d
      obtain ⟨ρ1, u, w1, h1, e1, hv, hs⟩ := op_step hE hx (hm _ hmn _ _ _ _ hgo) h (fun t _ => ha.tmps.2.2 t) ho hwr b _ k cs
      obtain ⟨ρ', a2', w', g1, g2, g3, g4⟩ := ih _ hl ρ1 w1 _ h1 ((ha.mono e1.le).put hd hv) b k cs
      exact ⟨ρ', a2', w', g1, e1.trans g2, g3, hs.trans g4⟩

theorem F2_range (ops : Array Oper) : F2 (fun o j => ops[j]? = some o) ops.toList (List.range ops.size) := by
  refine F2.of_get (by simp) fun i o j ho hj => ?_
  rw [List.getElem?_range (by have := (List.getElem?_eq_some_iff.1 ho).1; simpa using this)] at hj
  cases hj
  simpa using ho

end Go.Can
