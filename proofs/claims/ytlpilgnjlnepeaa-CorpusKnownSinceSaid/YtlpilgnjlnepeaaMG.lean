/-
  The abstract machine, part G.
-/
import Derived.Test.YtlpilgnjlnepeaaMH
set_option linter.all false
namespace Go.VM
variable {P : Program} {G : GS} {w : World} {St : Sts}

theorem some_val {x : Option AV} {v : AV} (h : (match x with | some v => some (Req.val v) | none => none) = some (Req.val v)) : x = some v := by
  split at h
  · injection h with h; injection h with h; rw [h]
  · cases h
theorem VR.inv_ptr {id off v} (h : VR G w St (.ptr id off) v) : ∃ b, G id = some (.box b) ∧ v = .pointer (some ⟨b, off, none⟩) := by
  cases h with
  | ptr id off b h => exact ⟨b, h, rfl⟩
theorem run_lowOf {l : Option AV} {lv : Option Value} {ll : Nat} (h : lowOf l = some ll) (hr : ∀ x, l = some x → ∃ v, lv = some v ∧ VR G w St x v) (hn : l = none → lv = none) :
    (l = none ∧ lv = none ∧ ll = 0) ∨ ∃ k n, lv = some (.int k n) ∧ 0 ≤ n ∧ ll = n.toNat := by
  unfold lowOf at h
  split at h
  · injection h with h; exact .inl ⟨rfl, hn rfl, h.symm⟩
  · rename_i k n
    split at h
    · rename_i h0
      injection h with h
      obtain ⟨v, e, hv⟩ := hr _ rfl
      obtain rfl := hv.inv_int
      exact .inr ⟨k, n, e, h0, h.symm⟩
    · cases h
  · cases h
theorem run_highOf {len : Nat} {l : Option AV} {lv : Option Value} {ll : Nat} (h : highOf len l = some ll) (hr : ∀ x, l = some x → ∃ v, lv = some v ∧ VR G w St x v) (hn : l = none → lv = none) :
    (l = none ∧ lv = none ∧ ll = len) ∨ ∃ k n, lv = some (.int k n) ∧ 0 ≤ n ∧ n ≤ len ∧ ll = n.toNat := by
  unfold highOf at h
  split at h
  · injection h with h; exact .inl ⟨rfl, hn rfl, h.symm⟩
  · rename_i k n
    split at h
    · rename_i h0
      injection h with h
      obtain ⟨v, e, hv⟩ := hr _ rfl
      obtain rfl := hv.inv_int
      exact .inr ⟨k, n, e, h0.1, h0.2, h.symm⟩
    · cases h
  · cases h
theorem run_bounds {isSlice : Bool} {len cap ll hh : Nat} {lv hv : Option Value} (hc : len ≤ cap) (hlh : ll ≤ hh) (hl : (lv = none ∧ ll = 0) ∨ ∃ k n, lv = some (.int k n) ∧ 0 ≤ n ∧ ll = n.toNat)
    (hh' : (hv = none ∧ hh = len) ∨ ∃ k n, hv = some (.int k n) ∧ 0 ≤ n ∧ n ≤ (len : Int) ∧ hh = n.toNat) : (Instr.sliceBounds isSlice len cap lv hv none).run P w = .ok (ll, hh, cap) w := by
  have sb : ∀ (k : IntKind) (n : Int) (y : Nat) (c : BoundsCode), 0 ≤ n → n ≤ y → (Instr.sliceBound (.int k n) y c).run P w = .ok n.toNat w := fun k n y c h0 h1 => run_sliceBound w k n y c h0 h1
  unfold Instr.sliceBounds
  rcases hh' with ⟨rfl, rfl⟩ | ⟨kh, nh, rfl, h0, h1, rfl⟩
  · rcases hl with ⟨rfl, rfl⟩ | ⟨kl, nl, rfl, l0, rfl⟩
    · simp
    · simp [sb kl nl hh _ l0 (by omega)]
  · rcases hl with ⟨rfl, rfl⟩ | ⟨kl, nl, rfl, l0, rfl⟩
    · simp [sb kh nh cap _ h0 (by omega)]
    · simp [sb kh nh cap _ h0 (by omega), sb kl nl nh.toNat _ l0 (by omega)]
theorem uni_spec {sz : Nat} {es : List (List AV)} (h : uni sz es = true) : ∀ e ∈ es, e.length = sz := by
  intro e he
  have := List.all_eq_true.1 h e he
  simpa using this
/-- A part of a slice. -/
theorem VR.cut_slice {u : Bool} {es : List (List AV)} {a : Option Addr} {n cap sz ll hh : Nat} (h : VR G w St (.slc u es) (.slice a n cap)) (hu : uni sz es = true) (hlh : ll ≤ hh) (hhn : hh ≤ es.length) :
    VR G w St (.slc false ((es.take hh).drop ll)) (.slice (if cap = ll then a else a.map (·.add (ll * sz))) (hh - ll) (cap - ll)) := by
  cases h with
  | slc u es sz' a cap us hc h0 hsz ha hl hr =>
    have hlen : ((es.take hh).drop ll).length = hh - ll := by simp; omega
    have hget : ∀ i e, ((es.take hh).drop ll)[i]? = some e → es[ll + i]? = some e ∧ i < hh - ll := by
      intro i e hi
      have hlt : i < hh - ll := by rw [← hlen]; exact (List.getElem?_eq_some_iff.1 hi).1
      rw [List.getElem?_drop, List.getElem?_take_of_lt (by omega)] at hi
      exact ⟨hi, hlt⟩
    have := VR.slc (G := G) (w := w) (St := St) false ((es.take hh).drop ll) sz' (if cap = ll then a else a.map (·.add (ll * sz))) (cap - ll) (fun i j => us (ll + i) j) (by rw [hlen]; omega) h0
      (fun e he => hsz e (List.mem_of_mem_take (List.mem_of_mem_drop he))) (fun hn => by
        split at hn
        · have := ha hn; omega
        · cases a with
          | none => have := ha rfl; omega
          | some ad => simp at hn) (fun hne => ?_) (fun i e j x h1 h2 => ?_)
    · rw [hlen] at this; exact this
    · have hne' : es ≠ [] := by
        intro he; subst he; simp at hne
      obtain ⟨b, o, rfl, hcell⟩ := hl hne'
      have hpos : 0 < hh - ll := by rw [← hlen]; exact List.length_pos_iff.2 hne
      have hsz2 : sz = sz' := by
        obtain ⟨e, he⟩ := List.exists_mem_of_ne_nil es hne'
        rw [← uni_spec hu e he, hsz e he]
      subst hsz2
      rw [if_neg (by omega)]
      refine ⟨b, o + ll * sz, by simp [Addr.add_lit], fun i j hi hj => ?_⟩
      rw [hlen] at hi
      have := hcell (ll + i) j (by omega) hj
      rw [Nat.add_mul, ← Nat.add_assoc o] at this
      exact this
    · obtain ⟨q1, q2⟩ := hget i e h1
      exact hr (ll + i) e j x q1 h2

set_option maxHeartbeats 1600000 in
theorem plain_sim {an : Ann} {nid : Nat} {d : Option Tmp} (o : Oper) (ρ : Operand → Value) (f : Operand → AV) {v : AV} (hf : ∀ x ∈ o.op.operands.toList, VR G w St (f x) (ρ x))
    (hp : plainOp o.op = true) (hq : req P an nid d o.op (o.op.operands.toList.map f) = some (.val v)) : ∃ cv, (execOp ρ o).run P w = .ok (.value cv) w ∧ VR G w St v cv := by
  obtain ⟨dst, op, ty, pos, after, guard⟩ := o
  simp only at hf hp hq
  unfold execOp
  cases op with
  | move x =>
    simp only [req, Op.operands, List.map_cons, List.map_nil] at hq
    simp [Op.operands] at hf
    split at hq
    · simp at hq
    · injection hq with hq; injection hq with hq
      subst hq
      exact ⟨ρ x, by simp, hf⟩
  | assign x =>
    simp only [req, Op.operands, List.map_cons, List.map_nil] at hq
    simp [Op.operands] at hf
    split at hq
    · simp at hq
    · injection hq with hq; injection hq with hq
      subst hq
      exact ⟨ρ x, by simp, hf⟩
  | pick c a b =>
    simp only [req, Op.operands, List.map_cons, List.map_nil] at hq
    simp only [Op.operands, List.forall_mem_cons] at hf
    obtain ⟨hc, ha, hb, _⟩ := hf
    split at hq
    · rename_i bb x y heq
      simp only [List.cons.injEq, and_true] at heq
      obtain ⟨e1, rfl, rfl⟩ := heq
      rw [e1] at hc
      injection hq with hq; injection hq with hq
      have hcb := hc.inv_bool
      cases bb with
      | true => exact ⟨ρ a, by simp [hcb, asBool], by rw [← hq]; simpa using ha⟩
      | false => exact ⟨ρ b, by simp [hcb, asBool], by rw [← hq]; simpa using hb⟩
    · cases hq
  | alloc t => simp only [req] at hq; split at hq <;> (try split at hq) <;> simp at hq
  | box t x => simp only [req] at hq; split at hq <;> (try split at hq) <;> simp at hq
  | build t ps =>
    simp only [req] at hq
    split at hq
    · rename_i hlen
      split at hq
      · rename_i z hz
        split at hq
        · rename_i hzl
          split at hq
          · rename_i cs hb
            injection hq with hq; injection hq with hq
            subst hq
            have hops : (Op.build t ps).operands.toList = ps.toList.map (·.2) := rfl
            rw [hops] at hb hf
            obtain ⟨i0, zv, hi, hiz, hzs, _, hzc, _⟩ := zr_some (G := G) (w := w) (St := St) hz
            have hst := hlen.2
            unfold structOf at hst
            split at hst
            · rename_i fs hu
              have hplaces : ∃ places, fs.toList.mapM (fun f => (P.info? f.type).map fun i => (f.offset, i.size)) = some places ∧ ∀ (i : Nat) (fd : Field), fs[i]? = some fd → places[i]? = some (fd.offset, szOf P fd.type) := by
                have hall : ∀ fd ∈ fs.toList, (P.info? fd.type).isSome = true := fun fd hfd => by
                  have := Array.all_eq_true'.1 hst fd (by simpa using hfd); simpa using this
                have gen : ∀ l : List Field, (∀ fd ∈ l, (P.info? fd.type).isSome = true) → ∃ places, l.mapM (fun f => (P.info? f.type).map fun i => (f.offset, i.size)) = some places ∧ ∀ (i : Nat) (fd : Field), l[i]? = some fd → places[i]? = some (fd.offset, szOf P fd.type) := by
                  intro l
                  induction l with
                  | nil => intro _; exact ⟨[], rfl, fun i fd h => by simp at h⟩
                  | cons fd l ih =>
                    intro h
                    obtain ⟨ps, h1, h2⟩ := ih fun x hx => h x (List.mem_cons_of_mem _ hx)
                    obtain ⟨i, hi⟩ := Option.isSome_iff_exists.1 (h fd List.mem_cons_self)
                    refine ⟨(fd.offset, i.size) :: ps, by simp [List.mapM_cons, hi, h1], fun j x hx => ?_⟩
                    cases j with
                    | zero => simp at hx; subst hx; simp [szOf, hi]
                    | succ j => simp at hx; simpa using h2 j x hx
                obtain ⟨pl, h1, h2⟩ := gen fs.toList hall
                exact ⟨pl, h1, fun i fd h => h2 i fd (by simpa using h)⟩
              obtain ⟨places, hp1, hp2⟩ := hplaces
              obtain ⟨arr, g1, g2⟩ := run_buildCells (P := P) (w := w) (G := G) (St := St) hu (places.toArray[·]?) (fun i fd h => by simpa using hp2 i fd h) _ (ps.toList.map fun (i, x) => (i, ρ x)) z zv.cells cs hb (by
                rw [List.map_map, List.map_fst_zip (by simp)]
                simp [Function.comp_def]) (fun i x y h1 h2 => by
                simp only [List.getElem?_map] at h2
                cases hpi : ps.toList[i]? with
                | none => simp [hpi] at h2
                | some q =>
                  simp only [hpi, Option.map_some, Option.some.injEq] at h2
                  subst h2
                  rw [List.getElem?_zip_eq_some] at h1
                  simp only [List.getElem?_map, hpi, Option.map_some, Option.some.injEq] at h1
                  rw [← h1.2]
                  exact hf q.2 (List.mem_map.2 ⟨q, List.mem_of_getElem? hpi, rfl⟩)) hzc
              refine ⟨.agg arr, ?_, ?_⟩
              · have hbt : P.built t (ps.map fun (i, x) => (i, ρ x)).toList = some arr := by
                  unfold Program.built
                  simp only [hi, hu, hiz, hp1, Array.toList_map]
                  exact g1
                simp [run_build w t _ arr hbt]
              · exact .agg _ _ g2.1 g2.2.1 g2.2.2
            · cases hst
          · cases hq
        · cases hq
      · cases hq
    · cases hq
  | buildSlice t n ps => simp [plainOp] at hp
  | load t a =>
    simp only [req, Op.operands, List.map_cons, List.map_nil] at hq
    simp only [Op.operands, List.forall_mem_cons] at hf
    obtain ⟨ha, _⟩ := hf
    split at hq
    · simp at hq
    · rename_i cs off heq
      simp only [List.cons.injEq, and_true] at heq
      rw [heq] at ha
      have hq := some_val hq
      cases hρ : ρ a with
      | pointer pa =>
        rw [hρ] at ha
        cases ha with
        | iptr cs off b o us hl hr =>
          obtain ⟨cv, h1, h2⟩ := run_loadVar (P := P) (o := o) hq (fun j hj => (hl j hj).2) hr
          exact ⟨cv, by simp [Instr.loadAt, Instr.sureAddr, hρ, h1], h2⟩
      | _ => rw [hρ] at ha; cases ha
    · simp at hq
    · cases hq
  | store t a x => simp only [req, Op.operands, List.map_cons, List.map_nil] at hq; split at hq <;> (try split at hq) <;> simp at hq
  | nilCheck x =>
    simp only [req, Op.operands, List.map_cons, List.map_nil] at hq
    simp only [Op.operands, List.forall_mem_cons] at hf
    obtain ⟨hx, _⟩ := hf
    split at hq
    · rename_i id off heq
      simp only [List.cons.injEq, and_true] at heq
      rw [heq] at hx
      injection hq with hq; injection hq with hq
      subst hq
      obtain ⟨b, hb, e⟩ := hx.inv_ptr
      exact ⟨_, by simp [e], .ptr _ _ b hb⟩
    · rename_i cs off heq
      simp only [List.cons.injEq, and_true] at heq
      rw [heq] at hx
      injection hq with hq; injection hq with hq
      subst hq
      have hx' := hx
      cases hρ : ρ x with
      | pointer pa =>
        rw [hρ] at hx
        cases hx with
        | iptr cs off b o us hl hr => exact ⟨_, by simp [hρ], .iptr cs off b o us hl hr⟩
      | _ => rw [hρ] at hx; cases hx
    · rename_i g xs ys heq
      simp only [List.cons.injEq, and_true] at heq
      rw [heq] at hx
      injection hq with hq; injection hq with hq
      subst hq
      cases hρ : ρ x with
      | func fn us vs =>
        rw [hρ] at hx
        have hx' := hx
        cases hx with
        | func g xs ys us vs h1 h2 h3 h4 => exact ⟨_, by simp [hρ], hx'⟩
      | _ => rw [hρ] at hx; cases hx
    · simp at hq
    · cases hq
  | binOp op t x y t2 =>
    simp only [req, Op.operands, List.map_cons, List.map_nil] at hq
    simp only [Op.operands, List.forall_mem_cons] at hf
    obtain ⟨hx, hy, _⟩ := hf
    have hq := some_val hq
    obtain ⟨cv, h1, h2⟩ := run_binAV (P := P) x y hq hx hy
    refine ⟨cv, ?_, h2⟩
    show ((do eqGuard op t x y (ρ x) (ρ y); binOp op t (ρ x) (ρ y) : Sem Value) >>= fun v => pure (Next.value v)).run P w = _
    rw [Sem.run_bind, h1]
    rfl
  | unOp op t x =>
    simp only [req, Op.operands, List.map_cons, List.map_nil] at hq
    simp only [Op.operands, List.forall_mem_cons] at hf
    obtain ⟨hx, _⟩ := hf
    split at hq
    · rename_i b heq
      simp only [List.cons.injEq, and_true] at heq
      rw [heq] at hx
      injection hq with hq; injection hq with hq
      subst hq
      exact ⟨_, by simp [hx.inv_bool, Op.unary], .bool _⟩
    · rename_i k n heq
      simp only [List.cons.injEq, and_true] at heq
      rw [heq] at hx
      injection hq with hq; injection hq with hq
      subst hq
      exact ⟨.int k (k.wrap (0 - n)), by simp [hx.inv_int, Op.unary, Op.intArith], by simpa using VR.int k (k.wrap (0 - n))⟩
    · cases hq
  | convert src dst x =>
    simp only [req, Op.operands, List.map_cons, List.map_nil] at hq
    simp only [Op.operands, List.forall_mem_cons] at hf
    obtain ⟨hx, _⟩ := hf
    split at hq
    · rename_i k n heq
      simp only [List.cons.injEq, and_true] at heq
      rw [heq] at hx
      split at hq
      · rename_i k1 k2 h1 h2
        injection hq with hq; injection hq with hq
        subst hq
        exact ⟨_, by simp [hx.inv_int, convert, run_underlying (intOf_some h1), run_underlying (intOf_some h2), Conv.intToInt], .int _ _⟩
      · cases hq
    · rename_i s heq
      simp only [List.cons.injEq, and_true] at heq
      rw [heq] at hx
      split at hq
      · rename_i hc
        simp only [Bool.and_eq_true] at hc
        injection hq with hq; injection hq with hq
        subst hq
        exact ⟨_, by simp [hx.inv_str, convert, run_underlying (strOf_true hc.1), run_underlying (strOf_true hc.2)], .str _⟩
      · cases hq
    · cases hq
  | sliceToArrayPointer t x => simp [req] at hq
  | makeInterface t x => simp [req] at hq
  | makeFunc fn fst cap =>
    simp only [req] at hq
    split at hq
    · rename_i g
      split at hq
      · rename_i hl
        injection hq with hq; injection hq with hq
        subst hq
        have hops : (Op.makeFunc (.func g) fst cap).operands.toList = fst.toList ++ cap.toList := by simp [Op.operands]
        rw [hops] at hf ⊢
        refine ⟨.func (.func g) (fst.map ρ) (cap.map ρ), by simp [Instr.makeFunc], ?_⟩
        simp only [List.map_append]
        rw [List.take_left' (by simp), List.drop_left' (by simp)]
        refine .func g _ _ _ _ (by simp) (by simp) (fun i x u h1 h2 => ?_) (fun i x u h1 h2 => ?_)
        · simp only [List.getElem?_map, Array.getElem?_map, Array.getElem?_toList] at h1 h2
          cases hfi : fst[i]? with
          | none => simp [hfi] at h1
          | some z => simp [hfi] at h1 h2; subst h1 h2; exact hf z (by simp [Array.mem_of_getElem? hfi])
        · simp only [List.getElem?_map, Array.getElem?_map, Array.getElem?_toList] at h1 h2
          cases hfi : cap[i]? with
          | none => simp [hfi] at h1
          | some z => simp [hfi] at h1 h2; subst h1 h2; exact hf z (by simp [Array.mem_of_getElem? hfi])
      · cases hq
    · cases hq
  | makeMap t r => simp only [req] at hq; split at hq <;> simp at hq
  | makeChan t s => simp [req] at hq
  | makeSlice t l c => simp [req] at hq
  | slice t x lo hi mx =>
    simp only [req] at hq
    split at hq
    · cases hq
    · have hops : (Op.slice t x lo hi none).operands.toList = x :: (lo.toList ++ hi.toList) := by cases lo <;> cases hi <;> simp [Op.operands]
      rw [hops] at hf hq
      simp only [List.map_cons] at hq
      have hx := hf x List.mem_cons_self
      -- the bounds
      have hL : ∀ y, (if lo.isSome = true then ((lo.toList ++ hi.toList).map f).head? else none) = some y → ∃ v, lo.map ρ = some v ∧ VR G w St y v := by
        intro y hy
        cases lo with
        | none => simp at hy
        | some lo => simp at hy; subst hy; exact ⟨ρ lo, rfl, hf lo (by simp)⟩
      have hLn : (if lo.isSome = true then ((lo.toList ++ hi.toList).map f).head? else none) = none → lo.map ρ = none := by
        intro hy
        cases lo with
        | none => rfl
        | some lo => simp at hy
      have hH : ∀ y, (if hi.isSome = true then (if lo.isSome = true then ((lo.toList ++ hi.toList).map f).tail.head? else ((lo.toList ++ hi.toList).map f).head?) else none) = some y → ∃ v, hi.map ρ = some v ∧ VR G w St y v := by
        intro y hy
        cases hi with
        | none => simp at hy
        | some hi => cases lo <;> simp at hy <;> subst hy <;> exact ⟨ρ hi, rfl, hf hi (by simp)⟩
      have hHn : (if hi.isSome = true then (if lo.isSome = true then ((lo.toList ++ hi.toList).map f).tail.head? else ((lo.toList ++ hi.toList).map f).head?) else none) = none → hi.map ρ = none := by
        intro hy
        cases hi with
        | none => rfl
        | some hi => cases lo <;> simp at hy
      generalize (if lo.isSome = true then ((lo.toList ++ hi.toList).map f).head? else none) = L at hq hL hLn
      generalize (if hi.isSome = true then (if lo.isSome = true then ((lo.toList ++ hi.toList).map f).tail.head? else ((lo.toList ++ hi.toList).map f).head?) else none) = Hh at hq hH hHn
      split at hq
      · cases hq
      · split at hq
        · rename_i s hfx
          rw [hfx] at hx
          split at hq
          · rename_i hh hhh
            split at hq
            · rename_i ll hll
              split at hq
              · rename_i hc
                injection hq with hq; injection hq with hq
                subst hq
                have b1 := run_lowOf hll hL hLn
                have b2 := run_highOf hhh hH hHn
                have hb := run_bounds (P := P) (w := w) (isSlice := false) (len := s.size) (cap := s.size) (Nat.le_refl _) hc.1 (b1.imp (fun h => ⟨h.2.1, h.2.2⟩) id) (b2.imp (fun h => ⟨h.2.1, h.2.2⟩) id)
                refine ⟨.string (s.extract ll hh), ?_, .str _⟩
                simp [hx.inv_str, run_sliceAt_string w t _ _ _ _ (strOf_true hc.2), Instr.slice, run_underlying (strOf_true hc.2), hb]
              · cases hq
            · cases hq
          · cases hq
        · rename_i u es hfx
          rw [hfx] at hx
          split at hq
          · rename_i e he
            split at hq
            · rename_i hh hhh
              split at hq
              · rename_i ll hll
                split at hq
                · rename_i hc
                  injection hq with hq; injection hq with hq
                  subst hq
                  have b1 := run_lowOf hll hL hLn
                  have b2 := run_highOf hhh hH hHn
                  cases hρ : ρ x with
                  | slice a n cap =>
                    rw [hρ] at hx
                    have hn : n = es.length ∧ n ≤ cap := by
                      cases hx with
                      | slc u es sz a cap us h1 h2 h3 h4 h5 h6 => exact ⟨rfl, h1⟩
                    have hb := run_bounds (P := P) (w := w) (isSlice := true) (len := n) (cap := cap) hn.2 hc.1 (b1.imp (fun h => ⟨h.2.1, h.2.2⟩) id) (by rw [hn.1]; exact b2.imp (fun h => ⟨h.2.1, h.2.2⟩) id)
                    have hle : hh ≤ es.length := by rcases b2 with ⟨_, _, h2⟩ | ⟨_, _, _, _, _, h2⟩ <;> omega
                    have hel : P.elem t = e := by simp [Program.elem, selOf_some he]
                    have hu' : P.underlying t = some (.slice (P.elem t)) := by rw [hel]; exact selOf_some he
                    have hse : (sizeOf e).run P w = .ok (szOf P e) w := run_sizeOf hc.2.2
                    refine ⟨_, ?_, VR.cut_slice hx hc.2.1 hc.1 hle⟩
                    simp [hρ, run_sliceAt_slice w t _ _ _ _ hu', run_slice_any w t a n cap hu', hb, hel, hse, sliced]
                  | _ => rw [hρ] at hx; cases hx
                · cases hq
              · cases hq
            · cases hq
          · cases hq
        · (repeat' split at hq) <;> simp at hq
        · cases hq
  | fieldAddr t x i =>
    simp only [req, Op.operands, List.map_cons, List.map_nil] at hq
    simp only [Op.operands, List.forall_mem_cons] at hf
    obtain ⟨hx, _⟩ := hf
    split at hq
    · rename_i id off fo ft heq hfl
      simp only [List.cons.injEq, and_true] at heq
      rw [heq] at hx
      split at hq
      · cases hq
      · rename_i hz
        injection hq with hq; injection hq with hq
        subst hq
        obtain ⟨fs, fd, e1, e2, rfl, rfl⟩ := fldOf_some hfl
        obtain ⟨b, hb, e⟩ := hx.inv_ptr
        refine ⟨.pointer (some ⟨b, off + fd.offset, none⟩), ?_, .ptr _ _ b hb⟩
        simp [Instr.fieldAt, run_underlying e1, e2, e, Instr.sureAddr, fieldPlace, run_sizeOf (w := w) hz, hz, Addr.add_lit]
    · rename_i cs off fo ft heq hfl
      simp only [List.cons.injEq, and_true] at heq
      rw [heq] at hx
      split at hq
      · cases hq
      · rename_i hz
        injection hq with hq; injection hq with hq
        subst hq
        obtain ⟨fs, fd, e1, e2, rfl, rfl⟩ := fldOf_some hfl
        cases hρ : ρ x with
        | pointer pa =>
          rw [hρ] at hx
          cases hx with
          | iptr cs off b o us hl hr =>
            refine ⟨.pointer (some ⟨b, o + (off + fd.offset), none⟩), ?_, .iptr cs _ b o us hl hr⟩
            simp [Instr.fieldAt, run_underlying e1, e2, hρ, Instr.sureAddr, fieldPlace, run_sizeOf (w := w) hz, hz, Addr.add_lit, Nat.add_assoc]
        | _ => rw [hρ] at hx; cases hx
    · (repeat' split at hq) <;> simp at hq
    · cases hq
  | field t x i =>
    simp only [req, Op.operands, List.map_cons, List.map_nil] at hq
    simp only [Op.operands, List.forall_mem_cons] at hf
    obtain ⟨hx, _⟩ := hf
    split at hq
    · rename_i cs fo ft heq hfl
      simp only [List.cons.injEq, and_true] at heq
      rw [heq] at hx
      have hq := some_val hq
      obtain ⟨fs, fd, e1, e2, rfl, rfl⟩ := fldOf_some hfl
      obtain ⟨us, e, s1, s2, s3⟩ := hx.inv_agg
      obtain ⟨cv, g1, g2⟩ := run_part (P := P) hq s1 s2 s3
      exact ⟨cv, by simp [Instr.field, run_underlying e1, e2, e, asAgg, g1], g2⟩
    · cases hq
  | indexAddr t x i =>
    simp only [req, Op.operands, List.map_cons, List.map_nil] at hq
    simp only [Op.operands, List.forall_mem_cons] at hf
    obtain ⟨hx, hi, _⟩ := hf
    split at hq
    · rename_i u es k n heq
      simp only [List.cons.injEq, and_true] at heq
      rw [heq.1] at hx
      rw [heq.2] at hi
      have ei := hi.inv_int
      split at hq
      · rename_i e he
        split at hq
        · rename_i h0
          split at hq
          · rename_i c hc
            split at hq
            · rename_i hcl
              injection hq with hq; injection hq with hq
              subst hq
              cases hρ : ρ x with
              | slice a len cap =>
                rw [hρ] at hx
                cases hx with
                | slc u es sz a cap us hcap hs0 hu ha hl hr =>
                  have hlt : n.toNat < es.length := (List.getElem?_eq_some_iff.1 hc).1
                  obtain ⟨b, o, rfl, hcell⟩ := hl (by intro h; subst h; simp at hlt)
                  have hsz : c.length = sz := hu c (List.mem_of_getElem? hc)
                  have hz : szOf P e ≠ 0 := by omega
                  refine ⟨.pointer (some ⟨b, o + n.toNat * sz + 0, none⟩), ?_, .iptr c 0 b (o + n.toNat * sz) (us n.toNat) (fun j hj => hcell n.toNat j hlt (by omega)) (fun j y hy => hr n.toNat c j y hc hy)⟩
                  have : 0 ≤ n ∧ n < (es.length : Int) := ⟨h0, by omega⟩
                  simp [Instr.indexAt, run_underlying (selOf_some he), ei, hρ, asIntOf, this, run_sizeOf (w := w) hz, Addr.add_lit, ← hcl, hsz]
              | _ => rw [hρ] at hx; cases hx
            · cases hq
          · cases hq
        · cases hq
      · cases hq
    · split at hq <;> simp at hq
    · rename_i id off k n heq
      simp only [List.cons.injEq, and_true] at heq
      rw [heq.1] at hx
      rw [heq.2] at hi
      have ei := hi.inv_int
      split at hq
      · rename_i len e he
        split at hq
        · rename_i hb
          obtain ⟨hb, hz⟩ : (0 ≤ n ∧ n < (len : Int)) ∧ szOf P e ≠ 0 := ⟨⟨hb.1, hb.2.1⟩, hb.2.2⟩
          injection hq with hq; injection hq with hq
          subst hq
          obtain ⟨b, hgb, ex⟩ := hx.inv_ptr
          refine ⟨.pointer (some ⟨b, off + n.toNat * szOf P e, none⟩), ?_, .ptr _ _ b hgb⟩
          simp [Instr.indexAt, run_underlying (arrOf_some he), ei, ex, asIntOf, hb, Instr.sureAddr, run_sizeOf (w := w) hz, Addr.add_lit]
        · cases hq
      · cases hq
    · rename_i cs off k n heq
      simp only [List.cons.injEq, and_true] at heq
      rw [heq.1] at hx
      rw [heq.2] at hi
      have ei := hi.inv_int
      split at hq
      · rename_i len e he
        split at hq
        · rename_i hb
          obtain ⟨hb, hz⟩ : (0 ≤ n ∧ n < (len : Int)) ∧ szOf P e ≠ 0 := ⟨⟨hb.1, hb.2.1⟩, hb.2.2⟩
          injection hq with hq; injection hq with hq
          subst hq
          cases hρ : ρ x with
          | pointer pa =>
            rw [hρ] at hx
            cases hx with
            | iptr cs off b o us hl hr =>
              refine ⟨.pointer (some ⟨b, o + (off + n.toNat * szOf P e), none⟩), ?_, .iptr cs _ b o us hl hr⟩
              simp [Instr.indexAt, run_underlying (arrOf_some he), ei, hρ, asIntOf, hb, Instr.sureAddr, run_sizeOf (w := w) hz, Addr.add_lit, Nat.add_assoc]
          | _ => rw [hρ] at hx; cases hx
        · cases hq
      · cases hq
    · cases hq
  | index t x i =>
    simp only [req, Op.operands, List.map_cons, List.map_nil] at hq
    simp only [Op.operands, List.forall_mem_cons] at hf
    obtain ⟨hx, hi, _⟩ := hf
    split at hq
    · rename_i s k n heq
      simp only [List.cons.injEq, and_true] at heq
      rw [heq.1] at hx
      rw [heq.2] at hi
      split at hq
      · rename_i hc
        split at hq
        · rename_i hlt
          injection hq with hq; injection hq with hq
          subst hq
          have : 0 ≤ n ∧ n < (s.size : Int) := ⟨hc.2, by omega⟩
          refine ⟨_, ?_, .int _ _⟩
          simp [hx.inv_str, hi.inv_int, run_index_string w t s k n (strOf_true hc.1), this]
        · cases hq
      · cases hq
    · rename_i cs k n heq
      simp only [List.cons.injEq, and_true] at heq
      rw [heq.1] at hx
      rw [heq.2] at hi
      split at hq
      · rename_i len e he
        split at hq
        · rename_i hb
          have hq := some_val hq
          obtain ⟨us, ex, s1, s2, s3⟩ := hx.inv_agg
          obtain ⟨cv, g1, g2⟩ := run_part (P := P) hq s1 s2 s3
          refine ⟨cv, ?_, g2⟩
          simp [Instr.index, run_underlying (arrOf_some he), hi.inv_int, ex, asIntOf, hb.1, hb.2.1, run_sizeOf (w := w) hb.2.2, g1]
        · cases hq
      · cases hq
    · cases hq
  | lookup t x i ok =>
    simp only [req, Op.operands, List.map_cons, List.map_nil] at hq
    simp only [Op.operands, List.forall_mem_cons] at hf
    obtain ⟨hx, hi, _⟩ := hf
    split at hq
    · simp at hq
    · rename_i ks vs k kt et heq ht
      simp only [List.cons.injEq, and_true] at heq
      rw [heq.1] at hx
      rw [heq.2] at hi
      have hq := some_val hq
      cases hρ : ρ x with
      | map r =>
        rw [hρ] at hx
        cases hx with
        | vnil =>
          obtain ⟨cv, g1, g2⟩ := run_lookAV (P := P) (mv := .map none) (es := #[]) ht hq hi (by simp) (by simp) (fun i e x h => by simp at h) (fun i e x h => by simp at h) (.inl ⟨rfl, rfl⟩)
          exact ⟨cv, by simp [hρ, g1], g2⟩
        | vmap ks vs b es clock hb hs hk hv hrk hrv =>
          obtain ⟨cv, g1, g2⟩ := run_lookAV (P := P) (mv := .map (some b)) ht hq hi hk hv hrk hrv (.inr ⟨b, clock, rfl, hb⟩)
          exact ⟨cv, by simp [hρ, g1], g2⟩
      | _ => rw [hρ] at hx; cases hx
    · cases hq
  | mapUpdate t m k x => simp only [req] at hq; split at hq <;> (try split at hq) <;> simp at hq
  | insert t m k x => simp only [req] at hq; split at hq <;> (try split at hq) <;> simp at hq
  | extract x i =>
    simp only [req, Op.operands, List.map_cons, List.map_nil] at hq
    simp only [Op.operands, List.forall_mem_cons] at hf
    obtain ⟨hx, _⟩ := hf
    split at hq
    · rename_i vs heq
      simp only [List.cons.injEq, and_true] at heq
      rw [heq] at hx
      have hq := some_val hq
      obtain ⟨us, e, s1, s3⟩ := hx.inv_tup
      have hlt : i < us.size := by rw [s1]; exact (List.getElem?_eq_some_iff.1 hq).1
      exact ⟨us[i], by simp [e, Instr.extract, hlt], s3 i v us[i] hq (by simp [hlt])⟩
    · cases hq
  | call c =>
    obtain ⟨callee, args, argTypes⟩ := c
    simp only [req, reqCall] at hq
    split at hq
    · have hops : (Op.call ⟨.builtin .len, args, argTypes⟩).operands.toList = args.toList := by simp [Op.operands, Call.operands]
      rw [hops] at hf hq
      have harg : ∀ x, args.toList.map f = [x] → ∃ a, args = #[a] ∧ f a = x ∧ VR G w St x (ρ a) := by
        intro x hx
        cases hal : args.toList with
        | nil => simp [hal] at hx
        | cons a r =>
          cases r with
          | nil =>
            simp only [hal, List.map_cons, List.map_nil, List.cons.injEq, and_true] at hx
            exact ⟨a, Array.toList_inj.1 (by simp [hal]), hx, by rw [← hx]; exact hf a (by simp [hal])⟩
          | cons b r => simp [hal] at hx
      split at hq
      · rename_i u es t heq hty
        obtain ⟨a, rfl, e, hv⟩ := harg _ heq
        split at hq
        · rename_i hs
          injection hq with hq; injection hq with hq
          subst hq
          obtain ⟨el, hel⟩ := Option.isSome_iff_exists.1 hs
          have hat : argTypes = #[t] := Array.toList_inj.1 (by simpa using hty)
          cases hρ : ρ a with
          | slice b n cap =>
            rw [hρ] at hv
            have hn : n = es.length := by cases hv; rfl
            exact ⟨.int .i64 es.length, by simp [resolve, invoke, builtin, Builtin.len_, hat, hρ, run_underlying (selOf_some hel), goInt, hn], .int _ _⟩
          | _ => rw [hρ] at hv; cases hv
        · cases hq
      · rename_i s t heq hty
        obtain ⟨a, rfl, e, hv⟩ := harg _ heq
        split at hq
        · rename_i hs
          injection hq with hq; injection hq with hq
          subst hq
          have hat : argTypes = #[t] := Array.toList_inj.1 (by simpa using hty)
          exact ⟨.int .i64 s.size, by simp [resolve, invoke, builtin, Builtin.len_, hat, hv.inv_str, run_underlying (strOf_true hs), goInt], .int _ _⟩
        · cases hq
      · rename_i ks vs t heq hty
        obtain ⟨a, rfl, e, hv⟩ := harg _ heq
        split at hq
        · rename_i hs
          injection hq with hq; injection hq with hq
          subst hq
          obtain ⟨⟨kt, et⟩, hel⟩ := Option.isSome_iff_exists.1 hs
          have hat : argTypes = #[t] := Array.toList_inj.1 (by simpa using hty)
          cases hρ : ρ a with
          | map r =>
            rw [hρ] at hv
            cases hv with
            | vnil => exact ⟨.int .i64 0, by simp [resolve, invoke, builtin, Builtin.len_, hat, hρ, run_underlying (mapOf_some hel), goInt], .int _ _⟩
            | vmap ks vs b es clock hb hs hk hv hrk hrv => exact ⟨.int .i64 ks.length, by simp [resolve, invoke, builtin, Builtin.len_, hat, hρ, run_underlying (mapOf_some hel), goInt, getObj, Sem.run, hb, hk], .int _ _⟩
          | _ => rw [hρ] at hv; cases hv
        · cases hq
      · split at hq <;> simp at hq
      · split at hq <;> simp at hq
      · cases hq
    · simp [plainOp] at hp
    · split at hq <;> simp at hq
    · cases hq
  | _ => simp [req] at hq
end Go.VM
