/-
  The abstract machine, part U.
-/
import Derived.Test.YtlpilgnjlnepeaaMT
set_option linter.all false
namespace Go.VM
variable {P : Program} {G : GS} {w : World} {St : Sts} {O : Nat → Ow} {bs : List Nat} {K K' : List AO} {E E' : Env} {a : Act}

theorem run_buildElems {e : TypeId} : ∀ (l : List (Nat × AV)) (m : List (Nat × Value)) (es : List (List AV)) (us : Array Value) (r : List (List AV)), buildElems P e l es = some r → l.map (·.1) = m.map (·.1) →
    (∀ (i : Nat) (x : Nat × AV) (y : Nat × Value), l[i]? = some x → m[i]? = some y → VR G w St x.2 y.2) → (∀ x ∈ es, x.length = szOf P e) → Cells G w St es.flatten us →
      ∃ arr, Instr.fill (fun i => some (i * szOf P e, szOf P e)) us m = some arr ∧ Cells G w St r.flatten arr ∧ (∀ x ∈ r, x.length = szOf P e) ∧ r.length = es.length
  | [], [], es, us, r, h, _, _, hu, hc => by
    simp only [buildElems, Option.some.injEq] at h
    subst h
    exact ⟨us, rfl, hc, hu, rfl⟩
  | (i, x) :: l, (i', y) :: m, es, us, r, h, hm, hr, hu, hc => by
    simp only [List.map_cons, List.cons.injEq] at hm
    obtain ⟨rfl, hm⟩ := hm
    simp only [buildElems] at h
    split at h
    · rename_i news hn
      split at h
      · rename_i hl
        obtain ⟨g1, g2⟩ := fit_cells (w := w) (G := G) (St := St) hn (hr 0 _ _ rfl rfl)
        obtain ⟨_, _, g3⟩ := fit_pos hn
        have hle : i * szOf P e + news.length ≤ es.flatten.length := by
          have : (i + 1) * szOf P e ≤ es.length * szOf P e := Nat.mul_le_mul_right _ hl
          rw [Nat.succ_mul] at this
          rw [flat_len hu, g3]; exact this
        have hyl : y.cells.toList.length = news.length := by rw [Array.length_toList]; exact g2.1
        have hbnd : i * szOf P e + 0 + y.cells.toList.length ≤ us.size := by rw [hyl, hc.1]; omega
        simp only [Instr.fill]
        rw [if_neg (by simp only [Bool.or_eq_true, decide_eq_true_eq, not_or]; refine ⟨by simpa using g1, ?_⟩; rw [hc.1, g2.1]; omega)]
        have hsp := Cells.splice (off := i * szOf P e) hc g2 hle (r := (y.cells.zipIdx.foldl (fun cs (c, j) => cs.setIfInBounds (i * szOf P e + j) c) us)) (by
          have := fold_set (i * szOf P e) y.cells.toList 0 us hbnd
          rw [← Array.foldl_toList, Array.toList_zipIdx]
          simpa using this)
        rw [← flat_set hu hl g3] at hsp
        obtain ⟨arr, r1, r2, r3, r4⟩ := run_buildElems l m (es.set i news) _ r h hm (fun j x y h1 h2 => hr (j + 1) x y (by simpa using h1) (by simpa using h2)) (fun x hx => by
          rcases List.mem_or_eq_of_mem_set hx with h | h
          · exact hu x h
          · rw [h]; exact g3) hsp
        exact ⟨arr, r1, r2, r3, by rw [r4]; simp⟩
      · cases h
    · cases h
  | [], y :: m, _, _, _, _, hm, _, _, _ => by simp at hm
  | x :: l, [], _, _, _, _, hm, _, _, _ => by simp at hm
theorem repl_cells {z : List AV} {zv : Array Value} {sz : Nat} (n : Nat) (h : Cells G w St z zv) (hs : z.length = sz) (h0 : 0 < sz) : Cells G w St (List.replicate n z).flatten ((Array.range (n * sz)).map (zv[· % zv.size]!)) := by
  have hu : ∀ e ∈ List.replicate n z, e.length = sz := fun e he => by rw [(List.mem_replicate.1 he).2]; exact hs
  have hzs : zv.size = sz := h.1.trans hs
  have hget : ∀ (k : Nat) (v : Value), ((Array.range (n * sz)).map (zv[· % zv.size]!))[k]? = some v → k < n * sz ∧ zv[k % sz]? = some v := fun k v hv => by
    have hk : k < n * sz := by have := (Array.getElem?_eq_some_iff.1 hv).1; simpa using this
    refine ⟨hk, ?_⟩
    have hm : k % sz < zv.size := by rw [hzs]; exact Nat.mod_lt _ h0
    rw [Array.getElem?_map, Array.getElem?_range, if_pos hk] at hv
    simp only [Option.map_some, Option.some.injEq] at hv
    rw [hzs, getElem!_pos zv (k % sz) hm] at hv
    rw [← hv]; exact Array.getElem?_eq_getElem hm
  refine ⟨by rw [flat_len hu]; simp, fun v hv => ?_, fun k x v hx hv => ?_⟩
  · obtain ⟨k, hk, he⟩ := Array.mem_iff_getElem.1 hv
    exact h.2.1 v (Array.mem_of_getElem? (hget k v (by rw [Array.getElem?_eq_getElem hk, he])).2)
  · obtain ⟨hk, hv⟩ := hget k v hv
    have hi : k / sz < n := Nat.div_lt_of_lt_mul (by rw [Nat.mul_comm]; exact hk)
    have hz : (List.replicate n z)[k / sz]? = some z := by rw [List.getElem?_replicate, if_pos hi]
    have := flat_get hu hz (k % sz) (Nat.mod_lt _ h0)
    rw [Nat.mul_comm, Nat.div_add_mod] at this
    rw [this] at hx
    exact h.2.2 _ x v hx hv
/-- A slice of the text, as it is made. -/
theorem build_req {an : Ann} {nid : Nat} {d : Option Tmp} {t : TypeId} {n : Nat} {ps : Array (Nat × Operand)} {f : Operand → AV} {r : Req} (hq : req P an nid d (.buildSlice t n ps) ((Op.buildSlice t n ps).operands.toList.map f) = some r) :
    ∃ e z es, selOf P t = some e ∧ zrOf P e = some z ∧ z.length = szOf P e ∧ szOf P e ≠ 0 ∧ n * szOf P e ≤ 16777216 ∧ buildElems P e (ps.toList.map fun x => (x.1, f x.2)) (List.replicate n z) = some es ∧
      r = (if Ann.mem an.ar d then .new (.arr 0 es) (.arr nid 0 0 n) else .val (.slc true es)) := by
  have hops : (Op.buildSlice t n ps).operands.toList = ps.toList.map (·.2) := rfl
  rw [hops] at hq
  simp only [req] at hq
  split at hq
  · split at hq
    · rename_i e he
      split at hq
      · rename_i z hz
        split at hq
        · rename_i hc
          split at hq
          · rename_i es hes
            refine ⟨e, z, es, he, hz, hc.1, hc.2.1, hc.2.2, ?_, ?_⟩
            · rw [← hes, List.map_map, List.zip_map', ]
              rfl
            · split at hq
              · rename_i hm
                rw [if_pos hm]; injection hq with hq; exact hq.symm
              · rename_i hm
                rw [if_neg hm]; injection hq with hq; exact hq.symm
          · cases hq
        · cases hq
      · cases hq
    · cases hq
  · cases hq
theorem run_made {an : Ann} {o : Oper} {t e : TypeId} {n : Nat} {ps : Array (Nat × Operand)} {z : List AV} {es : List (List AV)} (hop : o.op = .buildSlice t n ps) (hE : EI G w St O E a.tmps) (hte : selOf P t = some e) (hz : zrOf P e = some z) (hzl : z.length = szOf P e) (hz0 : szOf P e ≠ 0) (hsm : n * szOf P e ≤ 16777216)
    (hes : buildElems P e (ps.toList.map fun x => (x.1, inOf an o.dst o.op E x.2)) (List.replicate n z) = some es) :
    ∃ arr : Array Value, (execOp a.eval o).run P w = .ok (.value (.slice (some ⟨w.heap.size, 0, none⟩) n n)) (w.alloc (.cells arr e)) ∧ Cells G w St es.flatten arr ∧ (∀ x ∈ es, x.length = szOf P e) ∧ es.length = n := by
  obtain ⟨i, zv, hi, hiz, hzs, hzl', hzc, hzm⟩ := zr_some (G := G) (w := w) (St := St) hz
  have his : i.size = szOf P e := by simp [szOf, hi]
  have hu0 : ∀ x ∈ List.replicate n z, x.length = szOf P e := fun x hx => by rw [(List.mem_replicate.1 hx).2]; exact hzl
  obtain ⟨arr, g1, g2, g3, g4⟩ := run_buildElems (w := w) (G := G) (St := St) _ (ps.toList.map fun x => (x.1, a.eval x.2)) _ _ _ hes (by simp [List.map_map, Function.comp_def]) (fun j x y h1 h2 => by
    simp only [List.getElem?_map] at h1 h2
    cases hp : ps.toList[j]? with
    | none => simp [hp] at h1
    | some p => simp [hp] at h1 h2; subst h1 h2; exact inOf_VR hE an o.dst o.op p.2) hu0 (repl_cells n hzc hzl (Nat.pos_of_ne_zero hz0))
  refine ⟨arr, ?_, g2, g3, by rw [g4]; simp⟩
  have hb : (Instr.buildSlice t n (ps.map fun (i, x) => (i, a.eval x))).run P w = .ok (.slice (some ⟨w.heap.size, 0, none⟩) n n) (w.alloc (.cells arr e)) := by
    by_cases hn : n * i.size = 0
    · have hn0 : n = 0 := by
        rcases Nat.mul_eq_zero.1 hn with h | h
        · exact h
        · exact absurd (his.symm.trans h) hz0
      subst hn0
      have hr0 : Array.range 0 = #[] := rfl
      rw [Nat.zero_mul, hr0] at g1
      have g1' : Instr.fill (fun j => some (j * i.size, i.size)) #[] (ps.toList.map fun x => (x.1, a.eval x.2)) = some arr := by rw [his]; simpa using g1
      simp [Instr.buildSlice, run_underlying (selOf_some hte), sizeOf, typeInfo, zeroValue, hi, newRow, hr0, g1']
    · rw [← his] at g1
      exact run_buildSlice w t e n _ arr i zv (selOf_some hte) hi hiz (by rw [his]; omega) hn (by
        rw [Array.toList_map]
        exact g1)
  unfold execOp
  simp [hop, hb]
theorem gives_build {an : Ann} {d : Option Tmp} {t : TypeId} {n : Nat} {ps : Array (Nat × Operand)} : gives an d (.buildSlice t n ps) E = E := gives_none fun _ => rfl
theorem wp_build_val {an : Ann} {nid : Nat} {o : Oper} {t : TypeId} {n : Nat} {ps : Array (Nat × Operand)} {v : AV} {next : Act → World → Prop} {Q : Exit → Act → World → Prop}
    (hop : o.op = .buildSlice t n ps) (hH : HI G w St O bs K) (hE : EI G w St O E a.tmps) (ht : ∀ t, o.dst = some t → t < a.tmps.size)
    (hq : req P an nid o.dst o.op (o.op.operands.toList.map (inOf an o.dst o.op E)) = some (.val v))
    (hK : Goes G w St O bs K (putD (gives an o.dst o.op E) o.dst (tidy o.op v)) a o.dst next) : o.wp P a w next Q := by
  have htd : tidy o.op v = v := by simp [tidy, flagOp, hop]
  rw [htd, hop, gives_build] at hK
  have hq' := hq
  rw [hop] at hq'
  obtain ⟨e, z, es, hte, hz, hzl, hz0, hsm, hes, hr⟩ := build_req hq'
  split at hr
  · cases hr
  · injection hr with hr
    subst hr
    obtain ⟨arr, g1, g2, g3, g4⟩ := run_made (w := w) hop hE hte hz hzl hz0 hsm (by rw [hop]; exact hes)
    refine wp_row (w0 := w) (arr := arr) (rest := #[]) (e := e) (es := es) (cap := n) hH hE ht ⟨rfl, rfl, rfl, rfl⟩ (by rw [g4, Array.append_empty]; exact g1) g3 (Nat.pos_of_ne_zero hz0) g2 (by omega) (.inl g4) hK
theorem wp_build_new {an : Ann} {nid : Nat} {o : Oper} {t : TypeId} {n : Nat} {ps : Array (Nat × Operand)} {obj : AO} {v : AV} {next : Act → World → Prop} {Q : Exit → Act → World → Prop}
    (hop : o.op = .buildSlice t n ps) (hH : HI G w St O bs K) (hE : EI G w St O E a.tmps) (ht : ∀ t, o.dst = some t → t < a.tmps.size)
    (hq : req P an nid o.dst o.op (o.op.operands.toList.map (inOf an o.dst o.op E)) = some (.new obj v)) (hK' : Grows K nid obj K') (hn : G nid = none) (hb : ∀ b ∈ bs, b ≤ nid)
    (hK : Goes G w St O bs K' (putD (gives an o.dst o.op E) o.dst (tidy o.op v)) a o.dst next) : o.wp P a w next Q := by
  have htd : tidy o.op v = v := by simp [tidy, flagOp, hop]
  rw [htd] at hK
  have hq' := hq
  rw [hop] at hq'
  obtain ⟨e, z, es, hte, hz, hzl, hz0, hsm, hes, hr⟩ := build_req hq'
  split at hr
  · injection hr with hr1 hr2
    subst hr1 hr2
    obtain ⟨arr, g1, g2, g3, g4⟩ := run_made (w := w) hop hE hte hz hzl hz0 hsm (by rw [hop]; exact hes)
    have hc : Cells (setG G nid (.arr 0 (some w.heap.size) n (szOf P e))) (w.alloc (.cells arr e)) St es.flatten arr := g2.mono (GLe.set hn) (Stab.alloc w St _ hH.stl) (fun _ _ h => h)
    have has : arr.size = n * szOf P e := by rw [hc.1, flat_len g3, g4]
    refine wp_fresh (g := .arr 0 (some w.heap.size) n (szOf P e)) (ob := .cells arr e) hH hE ht hK' hn hb g1 (fun u => by rw [hop]; rfl) ?_ (.arr nid 0 0 n 0 (some w.heap.size) n (szOf P e) _ (by simp [setG]) (Nat.le_refl _) (fun _ => by simp [arrVal]) rfl) (fun es h => by cases h) hK
    refine OR.of_row (b := some w.heap.size) (cap := n) (sz := szOf P e) (by simp [setG]) (Nat.pos_of_ne_zero hz0) (by omega) g3 (fun h => by rw [h] at g4; simpa using g4.symm) (by simp) fun b' hb' => ?_
    injection hb' with hb'
    subst hb'
    exact ⟨arr, e, by simp [setO], heap_alloc_new w _, has, fun o hs => Nat.lt_irrefl _ (hH.stl _ o hs), by rw [hc.1]; exact Nat.le_refl _, fun k c v h1 h2 => ⟨hc.2.2 k c v h1 h2, hc.2.1 v (Array.mem_of_getElem? h2)⟩⟩
  · cases hr

/-! ### rows that have no block yet -/
theorem HI.grow0 {nid : Nat} {o : AO} (h : HI G w St O bs K) (hg : Grows K nid o K') (hn : G nid = none) (hb : ∀ b ∈ bs, b ≤ nid) (g : GO) (ho : OR (setG G nid g) w St O nid o) : HI (setG G nid g) w St O bs K' := by
  obtain ⟨g1, g2, g3, g4, g5⟩ := hg.get
  exact {
    low := h.low
    stl := h.stl
    gst := fun id hid => by
      obtain ⟨q1, q2⟩ := g5 id hid
      unfold setG; rw [if_neg q2]; exact h.gst id q1
    bas := fun b hbm id x hlt hx => by
      rw [g2 id (by have := hb b hbm; omega)] at hx
      exact h.bas b hbm id x hlt hx
    obj := fun id x hx => by
      by_cases he : id = nid
      · subst he; rw [g1] at hx; injection hx with hx; subst hx; exact ho
      · rw [g2 id he] at hx
        exact (h.obj id x hx).keep (GLe.set hn) (setG_ne he) (Stab.refl w St) (fun _ _ h => h) fun b hb => ⟨rfl, rfl, fun _ h => h⟩ }
theorem OR.none (nid : Nat) : OR (setG G nid (.arr 0 none 0 1)) w St O nid (.arr 0 []) :=
  OR.of_row (b := Option.none) (cap := 0) (sz := 1) (by simp [setG]) (by omega) (by simp) (fun e h => by simp at h) (fun _ => rfl) (fun _ => rfl) (fun b' h => by cases h)
theorem VR.none (nid : Nat) : VR (setG G nid (.arr 0 none 0 1)) w St (.arr nid 0 0 0) (.slice none 0 0) :=
  .arr nid 0 0 0 0 Option.none 0 1 _ (by simp [setG]) (Nat.le_refl _) (fun _ => rfl) rfl
theorem EI.grow0 {T : Array Value} {nid : Nat} (h : EI G w St O E T) (hn : G nid = none) (g : GO) : EI (setG G nid g) w St O E T :=
  h.keep (GLe.set hn) (Stab.refl w St) (fun _ _ h => h) fun b hb => ⟨rfl, rfl, fun _ h => h⟩
theorem nilConst_eval {x : Operand} (h : nilConst x = true) : a.eval x = .slice none 0 0 := by
  unfold nilConst at h
  split at h
  · rfl
  · cases h
theorem wp_move_new {an : Ann} {nid : Nat} {o : Oper} {x : Operand} {obj : AO} {v : AV} {next : Act → World → Prop} {Q : Exit → Act → World → Prop}
    (hop : o.op = .move x ∨ o.op = .assign x) (hH : HI G w St O bs K) (hE : EI G w St O E a.tmps) (ht : ∀ t, o.dst = some t → t < a.tmps.size)
    (hq : req P an nid o.dst o.op (o.op.operands.toList.map (inOf an o.dst o.op E)) = some (.new obj v)) (hK' : Grows K nid obj K') (hn : G nid = none) (hb : ∀ b ∈ bs, b ≤ nid)
    (hK : Goes G w St O bs K' (putD (gives an o.dst o.op E) o.dst (tidy o.op v)) a o.dst next) : o.wp P a w next Q := by
  have htd : tidy o.op v = v := by rcases hop with h | h <;> simp [tidy, flagOp, h]
  rw [htd] at hK
  have hc : nilConst x = true ∧ obj = .arr 0 [] ∧ v = .arr nid 0 0 0 := by
    rcases hop with h | h
    · rw [h] at hq
      simp only [req, Op.operands, List.map_cons, List.map_nil] at hq
      split at hq
      · rename_i hc
        simp only [Bool.and_eq_true] at hc
        injection hq with hq; injection hq with q1 q2
        exact ⟨hc.2, q1.symm, q2.symm⟩
      · simp at hq
    · rw [h] at hq
      simp only [req, Op.operands, List.map_cons, List.map_nil] at hq
      split at hq
      · rename_i hc
        simp only [Bool.and_eq_true] at hc
        injection hq with hq; injection hq with q1 q2
        exact ⟨hc.2, q1.symm, q2.symm⟩
      · simp at hq
  obtain ⟨hx, rfl, rfl⟩ := hc
  have hrun : (execOp a.eval o).run P w = .ok (.value (.slice none 0 0)) w := by
    unfold execOp
    rcases hop with h | h <;> simp [h, nilConst_eval hx]
  unfold Oper.wp
  rw [hrun, Oper.upon_value]
  exact hK _ w _ St O (hH.grow0 hK' hn hb _ (OR.none nid)) ((hE.weak.grow0 hn _).put_dst (VR.none nid) (fun es t _ h => by cases h) ht) (Step.refl O w St) (GLe.set hn)
theorem wp_alloc_new2 {an : Ann} {nid : Nat} {o : Oper} {t : TypeId} {o1 o2 : AO} {K1 : List AO} {v : AV} {next : Act → World → Prop} {Q : Exit → Act → World → Prop}
    (hop : o.op = .alloc t) (hH : HI G w St O bs K) (hE : EI G w St O E a.tmps) (ht : ∀ t, o.dst = some t → t < a.tmps.size)
    (hq : req P an nid o.dst o.op (o.op.operands.toList.map (inOf an o.dst o.op E)) = some (.new2 o1 o2 v)) (hK1 : Grows K nid o1 K1) (hK' : Grows K1 (nid + 1) o2 K') (hn : G nid = none) (hn' : G (nid + 1) = none) (hb : ∀ b ∈ bs, b ≤ nid)
    (hK : Goes G w St O bs K' (putD (gives an o.dst o.op E) o.dst (tidy o.op v)) a o.dst next) : o.wp P a w next Q := by
  rw [hop] at hq
  simp only [req] at hq
  split at hq
  · split at hq
    · rename_i hz
      injection hq with hq; injection hq with q1 q2 q3
      subst q1 q2 q3
      obtain ⟨i0, zv, hi, hiz, hzs, _, hzc, hzm⟩ := zr_some (G := G) (w := w) (St := St) hz
      have hzv : zv.cells = #[.slice none 0 0] := by
        have hl : zv.cells.toList.length = 1 := by have := congrArg List.length hzm; simpa using this.symm
        obtain ⟨c, hc⟩ := List.length_eq_one_iff.1 hl
        rw [hc] at hzm
        simp only [List.map_cons, List.map_nil, List.cons.injEq, and_true] at hzm
        have hcv : c = .slice none 0 0 := by
          unfold ofCell at hzm
          split at hzm <;> simp at hzm <;> rfl
        rw [hcv] at hc
        exact Array.toList_inj.1 (by simpa using hc)
      have h1 := hH.grow0 hK1 hn hb _ (OR.none nid)
      have h2 := hE.grow0 hn (.arr 0 none 0 1)
      have hn2 : setG G nid (.arr 0 none 0 1) (nid + 1) = none := by unfold setG; rw [if_neg (by omega)]; exact hn'
      have hK2 : Goes (setG G nid (.arr 0 none 0 1)) w St O bs K' (putD (gives an o.dst o.op E) o.dst (.ptr (nid + 1) 0)) a o.dst next := by
        have htd : tidy o.op (.ptr (nid + 1) 0) = .ptr (nid + 1) 0 := by simp [tidy, flagOp, hop, AV.strip]
        rw [htd] at hK
        exact fun cv w' G' St' O' e1 e2 e3 e4 => hK cv w' G' St' O' e1 e2 e3 ((GLe.set hn).trans e4)
      refine wp_fresh (g := .box w.heap.size) (ob := .cells zv.cells t) (cv := .pointer (some ⟨w.heap.size, 0, none⟩)) h1 h2 ht hK' hn2 (fun b hb1 => Nat.le_succ_of_le (hb b hb1)) ?_ (fun u => by rw [hop]; rfl) (fresh_box t h1 hn2 ?_ ?_) (.ptr (nid + 1) 0 _ (by simp [setG])) (fun es h => by cases h) hK2
      · unfold execOp
        simp [hop, Instr.alloc, zeroValue, typeInfo, hi, hiz, newVar, newRow]
      · rw [hzv]
        refine ⟨rfl, fun v hv => by simp at hv; rw [hv]; rfl, fun j x u h3 h4 => ?_⟩
        cases j with
        | zero => simp at h3 h4; subst h3 h4; exact VR.none nid
        | succ j => simp at h3
      · intro j es v h3 h4
        cases j with
        | zero => simp at h3
        | succ j => simp at h3
    · cases hq
  · split at hq
    · split at hq <;> simp at hq
    · cases hq
end Go.VM
