/-
  The abstract machine, part K.
-/
import Derived.Test.YtlpilgnjlnepeaaMR
set_option linter.all false
namespace Go.VM
variable {P : Program} {G : GS} {w : World} {St : Sts} {O : Nat → Ow} {bs : List Nat} {K K' : List AO} {E E' : Env} {a : Act}

theorem hands_none {an : Ann} {d : Option Tmp} {o : Op} (h : ∀ t, hands an d o t = false) (x : Operand) (es : List (List AV)) (hx : inOf an d o E x = .slc true es) : es = [] ∧ a.eval x = .slice none 0 0 := by
  rcases inOf_flag (a := a) hx with ⟨t, _, h1, _⟩ | h
  · rw [h t] at h1; cases h1
  · exact h
theorem ofCell_flag (v : Value) (es : List (List AV)) : ofCell v ≠ .slc true es := by
  unfold ofCell
  split <;> simp
theorem cells_flag {x : AV} {i : Nat} {es : List (List AV)} (h : x.cells[i]? = some (.slc true es)) : x = .slc true es ∧ i = 0 := by
  cases x with
  | agg cs =>
    simp only [AV.cells, List.getElem?_map] at h
    cases hc : cs[i]? with
    | none => simp [hc] at h
    | some c => simp [hc] at h; exact absurd h (strip_not _ _)
  | slc u fs =>
    simp only [AV.cells] at h
    cases i with
    | zero => simp at h; exact ⟨by rw [h.1, h.2], rfl⟩
    | succ i => simp at h
  | _ =>
    simp only [AV.cells] at h
    cases i <;> simp at h

/-- A new object. -/
theorem wp_fresh {an : Ann} {o : Oper} {v : AV} {obj : AO} {ob : Obj} {g : GO} {cv : Value} {nid : Nat} {next : Act → World → Prop} {Q : Exit → Act → World → Prop} (hH : HI G w St O bs K) (hE : EI G w St O E a.tmps) (ht : ∀ t, o.dst = some t → t < a.tmps.size)
    (hK' : Grows K nid obj K') (hn : G nid = none) (hb : ∀ b ∈ bs, b ≤ nid) (hrun : (execOp a.eval o).run P w = .ok (.value cv) (w.alloc ob)) (hnh : ∀ t, hands an o.dst o.op t = false)
    (ho : OR (setG G nid g) (w.alloc ob) St (setO O w.heap.size (.obj nid)) nid obj) (hv : VR (setG G nid g) (w.alloc ob) St v cv) (hvf : ∀ es, v ≠ .slc true es)
    (hK : Goes G w St O bs K' (putD (gives an o.dst o.op E) o.dst v) a o.dst next) : o.wp P a w next Q := by
  unfold Oper.wp
  rw [hrun, Oper.upon_value]
  rw [gives_none hnh] at hK
  refine hK cv _ _ St _ (hH.grow hK' hn hb g ob ho) ?_ (Step.alloc hH ob _) (GLe.set hn)
  exact (EI.alloc hH hE hn g ob (.obj nid)).put_dst hv (fun es t _ h => absurd h (hvf es)) ht
theorem fresh_box {cs : List AV} {vals : Array Value} {nid : Nat} (e : TypeId) (hH : HI G w St O bs K) (hn : G nid = none) (hc : Cells G w St cs vals) (hf : ∀ (j : Nat) (es : List (List AV)) (v : Value), cs[j]? = some (.slc true es) → vals[j]? = some v → ∃ a n, v = .slice a n n) :
    OR (setG G nid (.box w.heap.size)) (w.alloc (.cells vals e)) St (setO O w.heap.size (.obj nid)) nid (.box cs) := by
  refine ⟨w.heap.size, vals, e, by simp [setG], by simp [setO], heap_alloc_new w _, hc.1, fun o hs => Nat.lt_irrefl _ (hH.stl _ o hs), fun j c v h1 h2 => ⟨?_, ?_, fun es he => ?_⟩⟩
  · exact (hc.2.2 j c v h1 h2).mono (GLe.set hn) (Stab.alloc w St _ hH.stl) (fun _ _ h => h)
  · exact hc.2.1 v (Array.mem_of_getElem? h2)
  · subst he
    obtain ⟨a, n, rfl⟩ := hf j es v h1 h2
    exact ⟨a, n, n, rfl, .inl rfl⟩
def isAlloc : Op → Bool
  | .alloc _ | .box .. | .makeMap .. => true
  | _ => false
theorem wp_new {an : Ann} {o : Oper} {v : AV} {obj : AO} {nid : Nat} {next : Act → World → Prop} {Q : Exit → Act → World → Prop} (hH : HI G w St O bs K) (hE : EI G w St O E a.tmps) (ht : ∀ t, o.dst = some t → t < a.tmps.size)
    (hk : isAlloc o.op = true)
    (hq : req P an nid o.dst o.op (o.op.operands.toList.map (inOf an o.dst o.op E)) = some (.new obj v)) (hK' : Grows K nid obj K') (hn : G nid = none) (hb : ∀ b ∈ bs, b ≤ nid)
    (hK : Goes G w St O bs K' (putD (gives an o.dst o.op E) o.dst (tidy o.op v)) a o.dst next) : o.wp P a w next Q := by
  cases hop : o.op with
  | alloc t =>
    rw [hop] at hq hK
    simp only [req] at hq
    split at hq
    · split at hq <;> simp at hq
    split at hq
    · rename_i z hz
      split at hq
      · rename_i hzl
        simp only [Option.some.injEq, Req.new.injEq] at hq
        obtain ⟨rfl, rfl⟩ := hq
        obtain ⟨i0, zv, hi, hiz, hzs, _, hzc, hzm⟩ := zr_some (G := G) (w := w) (St := St) hz
        have hfl : ∀ (c : AV) (u : Value), VR G w St c u → VR G w St (flagNil c) u := by
          intro c u h
          unfold flagNil
          split
          · cases h with
            | slc u es sz a cap us h1 h2 h3 h4 h5 h6 => exact .slc true [] sz a cap us h1 h2 h3 h4 h5 h6
          · exact h
        have hcell : Cells G w St (if aggOf P t == some true then z else z.map flagNil) zv.cells := by
          split
          · exact hzc
          · refine ⟨by simp [hzc.1], hzc.2.1, fun i x u hx hu => ?_⟩
            simp only [List.getElem?_map] at hx
            cases hc : z[i]? with
            | none => simp [hc] at hx
            | some c => simp [hc] at hx; subst hx; exact hfl c u (hzc.2.2 i c u hc hu)
        have hff : ∀ (j : Nat) (es : List (List AV)) (v : Value), (if aggOf P t == some true then z else z.map flagNil)[j]? = some (.slc true es) → zv.cells[j]? = some v → ∃ a n, v = .slice a n n := by
          intro j es v hj hv
          split at hj
          · rw [hzm, List.getElem?_map] at hj
            simp only [Array.getElem?_toList, hv, Option.map_some, Option.some.injEq] at hj
            exact absurd hj (ofCell_flag _ _)
          · rw [List.getElem?_map, hzm, List.getElem?_map] at hj
            simp only [Array.getElem?_toList, hv, Option.map_some, Option.some.injEq] at hj
            unfold flagNil at hj
            split at hj
            · rename_i heq
              unfold ofCell at heq
              split at heq <;> simp at heq
              exact ⟨none, 0, rfl⟩
            · exact absurd hj (ofCell_flag _ _)
        refine wp_fresh (g := .box w.heap.size) (ob := .cells zv.cells t) (cv := .pointer (some ⟨w.heap.size, 0, none⟩)) hH hE ht hK' hn hb ?_ (fun u => by rw [hop]; rfl) (fresh_box t hH hn hcell hff) (.ptr nid 0 _ (by simp [setG])) (fun es h => by cases h) (by rw [hop]; exact hK)
        unfold execOp
        simp [hop, Instr.alloc, zeroValue, typeInfo, hi, hiz, newVar, newRow]
      · cases hq
    · cases hq
  | box t x =>
    rw [hop] at hq hK
    simp only [req, Op.operands, List.map_cons, List.map_nil] at hq
    split at hq
    · rename_i cs hcs
      simp only [Option.some.injEq, Req.new.injEq] at hq
      obtain ⟨rfl, rfl⟩ := hq
      have hx := inOf_VR hE an o.dst (.box t x) x
      obtain ⟨h1, h2⟩ := fit_cells hcs hx
      refine wp_fresh (g := .box w.heap.size) (ob := .cells (a.eval x).cells t) (cv := .pointer (some ⟨w.heap.size, 0, none⟩)) hH hE ht hK' hn hb ?_ (fun u => by rw [hop]; rfl) (fresh_box t hH hn h2 ?_) (.ptr nid 0 _ (by simp [setG])) (fun es h => by cases h) (by rw [hop]; exact hK)
      · unfold execOp
        simp [hop, Instr.box, newVar, newRow]
      · intro j es v hj hv
        have hcs' : cs = (inOf an o.dst (.box t x) E x).cells := by
          unfold fitCells at hcs
          simp only at hcs
          split at hcs
          · injection hcs with hcs; exact hcs.symm
          · cases hcs
        rw [hcs'] at hj
        obtain ⟨e1, e2⟩ := cells_flag hj
        obtain ⟨rfl, e4⟩ := hands_none (a := a) (fun u => rfl) x es e1
        subst e2
        rw [e4] at hv
        simp [Value.cells] at hv
        exact ⟨none, 0, hv.symm⟩
    · cases hq
  | makeMap t r =>
    rw [hop] at hq hK
    simp only [req] at hq
    have hm : OR (setG G nid (.map w.heap.size)) (w.alloc (.map #[] 0)) St (setO O w.heap.size (.obj nid)) nid (.map [] []) :=
      ⟨w.heap.size, #[], 0, by simp [setG], by simp [setO], heap_alloc_new w _, fun o hs => Nat.lt_irrefl _ (hH.stl _ o hs), rfl, rfl, fun i e x h => by simp at h, fun i e x h => by simp at h⟩
    split at hq
    · simp only [Option.some.injEq, Req.new.injEq] at hq
      obtain ⟨rfl, rfl⟩ := hq
      refine wp_fresh (g := .map w.heap.size) (ob := .map #[] 0) (cv := .map (some w.heap.size)) hH hE ht hK' hn hb ?_ (fun u => by rw [hop]; rfl) hm (.map nid _ (by simp [setG])) (fun es h => by cases h) (by rw [hop]; exact hK)
      unfold execOp
      simp [hop, Instr.makeMap]
    · rename_i x k n heq
      split at hq
      · rename_i hs
        simp only [Option.some.injEq, Req.new.injEq] at hq
        obtain ⟨rfl, rfl⟩ := hq
        obtain ⟨⟨kt, et⟩, hmt⟩ := Option.isSome_iff_exists.1 hs
        simp only [Op.operands, Option.toArray_some, List.map_cons, List.map_nil, List.cons.injEq, and_true] at heq
        have hx := inOf_VR hE an o.dst (.makeMap t (some x)) x
        rw [heq] at hx
        refine wp_fresh (g := .map w.heap.size) (ob := .map #[] 0) (cv := .map (some w.heap.size)) hH hE ht hK' hn hb ?_ (fun u => by rw [hop]; rfl) hm (.map nid _ (by simp [setG])) (fun es h => by cases h) (by rw [hop]; exact hK)
        unfold execOp
        simp [hop, Instr.makeMap, run_underlying (mapOf_some hmt), hx.inv_int, asInt, asIntOf]
      · cases hq
    · cases hq
  | _ => rw [hop] at hk; cases hk
end Go.VM
