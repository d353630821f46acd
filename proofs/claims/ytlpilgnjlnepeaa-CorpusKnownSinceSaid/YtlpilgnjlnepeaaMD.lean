/-
  The abstract machine, part D.
-/
import Derived.Test.YtlpilgnjlnepeaaMC
import Derived.Laws.StructEq
import Derived.Laws.Rows
import Derived.Laws.Slices
set_option linter.all false
namespace Go.VM
variable {P : Program} {G : GS} {w : World} {St : Sts}

/-! ### what the types say, in the model's words -/
theorem szOf_some {t : TypeId} (h : szOf P t ≠ 0) : ∃ i, P.info? t = some i ∧ i.size = szOf P t := by
  unfold szOf at h ⊢
  cases hi : P.info? t with
  | none => simp [hi] at h
  | some i => exact ⟨i, rfl, rfl⟩
theorem run_sizeOf {t : TypeId} (h : szOf P t ≠ 0) : (sizeOf t).run P w = .ok (szOf P t) w := by
  obtain ⟨i, hi, hs⟩ := szOf_some h
  simp [sizeOf, typeInfo, hi, hs]
theorem aggOf_some {t : TypeId} {a : Bool} (h : aggOf P t = some a) : ∃ d, P.underlying t = some d ∧ (match d with | .struct _ | .array _ _ => true | _ => false) = a := by
  unfold aggOf at h
  split at h
  · rename_i u; injection h with h; exact ⟨_, u, h⟩
  · rename_i u; injection h with h; exact ⟨_, u, h⟩
  · rename_i d h1 h2 u
    injection h with h
    refine ⟨d, u, ?_⟩
    subst h
    cases d <;> first | rfl | (exact (h1 _ rfl).elim) | (exact (h2 _ _ rfl).elim)
  · cases h
theorem run_isAgg {t : TypeId} {a : Bool} (h : aggOf P t = some a) : (isAgg t).run P w = .ok a w := by
  obtain ⟨d, hd, ha⟩ := aggOf_some h
  unfold isAgg
  rw [Sem.run_bind, run_underlying hd, Result.andThen_ok, ← ha]
  cases d <;> rfl
theorem info_of_underlying {t : TypeId} {d : TypeDesc} (h : P.underlying t = some d) : ∃ i, P.info? t = some i := by
  cases hi : P.info? t with
  | none => simp [Program.underlying, hi] at h
  | some i => exact ⟨i, rfl⟩
theorem run_sizeOf_u {t : TypeId} {d : TypeDesc} (h : P.underlying t = some d) : (sizeOf t).run P w = .ok (szOf P t) w := by
  obtain ⟨i, hi⟩ := info_of_underlying h
  simp [sizeOf, typeInfo, hi, szOf]
theorem run_sizeOf_a {t : TypeId} {a : Bool} (h : aggOf P t = some a) : (sizeOf t).run P w = .ok (szOf P t) w := by
  obtain ⟨d, hd, _⟩ := aggOf_some h
  exact run_sizeOf_u hd
theorem selOf_some {t e : TypeId} (h : selOf P t = some e) : P.underlying t = some (.slice e) := by
  unfold selOf at h
  split at h
  · injection h with h; subst h; assumption
  · cases h
theorem arrOf_some {t e : TypeId} {n : Nat} (h : arrOf P t = some (n, e)) : P.underlying t = some (.array n e) := by
  unfold arrOf at h
  split at h
  · injection h with h; injection h with h1 h2; subst h1 h2; assumption
  · cases h
theorem strOf_true {t : TypeId} (h : strOf P t = true) : P.underlying t = some .string := by
  unfold strOf at h
  split at h
  · assumption
  · cases h
theorem mapOf_some {t k e : TypeId} (h : mapOf P t = some (k, e)) : P.underlying t = some (.map k e) := by
  unfold mapOf at h
  split at h
  · injection h with h; injection h with h1 h2; subst h1 h2; assumption
  · cases h
theorem intOf_some {t : TypeId} {k : IntKind} (h : intOf P t = some k) : P.underlying t = some (.int k) := by
  unfold intOf at h
  split at h
  · injection h with h; subst h; assumption
  · cases h
theorem fldOf_some {t ft : TypeId} {f fo : Nat} (h : fldOf P t f = some (fo, ft)) : ∃ fs fd, P.underlying t = some (.struct fs) ∧ fs[f]? = some fd ∧ fd.offset = fo ∧ fd.type = ft := by
  unfold fldOf at h
  split at h
  · rename_i fs hu
    cases hf : fs[f]? with
    | none => simp [hf] at h
    | some fd =>
      simp [hf] at h
      exact ⟨fs, fd, hu, hf, h.1, h.2⟩
  · cases h

/-! ### inversion -/
theorem VR.inv_int {k n v} (h : VR G w St (.int k n) v) : v = .int k n := by cases h; rfl
theorem VR.inv_bool {b v} (h : VR G w St (.bool b) v) : v = .bool b := by cases h; rfl
theorem VR.inv_str {s v} (h : VR G w St (.str s) v) : v = .string s := by cases h; rfl
theorem VR.inv_agg {cs v} (h : VR G w St (.agg cs) v) : ∃ vs : Array Value, v = .agg vs ∧ vs.size = cs.length ∧ (∀ v ∈ vs, v.oneCell' = true) ∧ ∀ (i : Nat) (x : AV) (u : Value), cs[i]? = some x → vs[i]? = some u → VR G w St x u := by
  cases h with
  | agg cs vs hs h1 hr => exact ⟨vs, rfl, hs, h1, hr⟩
theorem VR.inv_tup {cs v} (h : VR G w St (.tup cs) v) : ∃ vs : Array Value, v = .tuple vs ∧ vs.size = cs.length ∧ ∀ (i : Nat) (x : AV) (u : Value), cs[i]? = some x → vs[i]? = some u → VR G w St x u := by
  cases h with
  | tup cs vs hs hr => exact ⟨vs, rfl, hs, hr⟩

/-! ### constants -/
theorem VR.nilSlice (u : Bool) : VR G w St (.slc u []) (.slice none 0 0) :=
  .slc u [] 1 none 0 (fun _ _ => undef) (Nat.le_refl _) (by omega) (by simp) (fun _ => rfl) (fun h => absurd rfl h) (fun i e j x h => by simp at h)
theorem VR.ofCell (v : Value) : VR G w St (ofCell v) v := by
  unfold VM.ofCell
  split
  · exact .int _ _
  · exact .bool _
  · exact .str _
  · exact .nilp
  · exact VR.nilSlice false
  · exact .vnil
  · exact .nilf
  · exact .nili
  · exact .poison _
theorem oneCell_of_ofCell {v : Value} (h : (ofCell v).one = true) : v.oneCell' = true := by
  have k : VR (fun _ => none) (default : World) (fun _ _ => False) (VM.ofCell v) v := VR.ofCell v
  exact k.one h
theorem VR.ofConst (v : Value) : VR G w St (ofConst v) v := by
  unfold VM.ofConst
  split
  · rename_i cs
    split
    case isFalse => exact .poison _
    rename_i hall
    refine .agg _ _ (by simp) (fun c hc => oneCell_of_ofCell (List.all_eq_true.1 hall c (by simpa using hc))) fun i x u hx hu => ?_
    simp only [List.getElem?_map, Array.getElem?_toList] at hx
    rw [hu] at hx
    simp at hx
    subst hx
    exact VR.ofCell u
  · exact VR.nilSlice true
  · rename_i vs
    split
    · rename_i h0
      have : vs = #[] := Array.eq_empty_of_size_eq_zero h0
      subst this
      exact .tup [] #[] rfl (fun i x u h => by simp at h)
    · exact .poison _
  · exact VR.ofCell _

/-! ### reading a value out of a row of cells -/
theorem run_part {t : TypeId} {cs : List AV} {vs : Array Value} {off : Nat} {v : AV} (h : readCells P t cs off = some v)
    (hs : vs.size = cs.length) (h1 : ∀ v ∈ vs, v.oneCell' = true) (hr : ∀ (i : Nat) (x : AV) (u : Value), cs[i]? = some x → vs[i]? = some u → VR G w St x u) :
    ∃ cv, (part t vs off).run P w = .ok cv w ∧ VR G w St v cv := by
  unfold readCells at h
  unfold part
  split at h
  · rename_i ha
    rw [Sem.run_bind, run_isAgg ha, Result.andThen_ok, if_pos rfl]
    split at h
    · rename_i hl
      injection h with h
      subst h
      refine ⟨.agg (vs.extract off (off + szOf P t)), ?_, ?_⟩
      · simp [run_sizeOf_a (w := w) ha]
      · refine .agg _ _ ?_ ?_ fun i x u hx hu => ?_
        · simp [List.extract_eq_take_drop]; omega
        · intro v hv
          obtain ⟨i, hi, he⟩ := Array.mem_iff_getElem.1 hv
          have : v = vs[off + i]'(by simp at hi; omega) := by simpa using he.symm
          exact h1 v (by rw [this]; exact Array.getElem_mem _)
        · rw [Array.getElem?_extract] at hu
          split at hu
          · rename_i hi
            simp only [List.extract_eq_take_drop, List.getElem?_map] at hx
            rw [List.getElem?_take_of_lt (by omega), List.getElem?_drop] at hx
            cases hc : cs[off + i]? with
            | none => simp [hc] at hx
            | some c =>
              simp [hc] at hx
              subst hx
              exact (hr (off + i) c u hc hu).strip
          · cases hu
    · cases h
  · rename_i ha
    rw [Sem.run_bind, run_isAgg ha, Result.andThen_ok, if_neg (by simp)]
    cases hc : cs[off]? with
    | none => simp [hc] at h
    | some c =>
      simp [hc] at h
      subst h
      have hlt : off < vs.size := by rw [hs]; exact (List.getElem?_eq_some_iff.1 hc).1
      refine ⟨vs[off], ?_, (hr off c vs[off] hc (by simp [hlt])).strip⟩
      simp [hlt]
  · cases h
theorem run_loadVar {t : TypeId} {cs : List AV} {b o off : Nat} {v : AV} {us : Nat → Value} (h : readCells P t cs off = some v)
    (hl : ∀ j, j < cs.length → w.cell? ⟨b, o + j, none⟩ = some (us j) ∧ (us j).oneCell' = true) (hr : ∀ (j : Nat) (x : AV), cs[j]? = some x → VR G w St x (us j)) :
    ∃ cv, (loadVar t ⟨b, o + off, none⟩).run P w = .ok cv w ∧ VR G w St v cv := by
  unfold readCells at h
  unfold loadVar
  split at h
  · rename_i ha
    rw [Sem.run_bind, run_isAgg ha, Result.andThen_ok, if_pos rfl]
    split at h
    · rename_i hlen
      injection h with h
      subst h
      have hload : (loadCells ⟨b, o + off, none⟩ ((List.range (szOf P t)).map fun j => us (off + j)).length).run P w = .ok ((List.range (szOf P t)).map fun j => us (off + j)).toArray w := by
        refine run_loadCells_list (P := P) w ⟨b, o + off, none⟩ _ fun j v hv => ?_
        rw [Addr.add_lit]
        simp only [List.getElem?_map] at hv
        rcases Nat.lt_or_ge j (szOf P t) with hj | hj
        · rw [List.getElem?_range hj] at hv
          simp at hv
          subst hv
          rw [Nat.add_assoc]
          exact (hl (off + j) (by omega)).1
        · simp [List.getElem?_eq_none (show (List.range (szOf P t)).length ≤ j by simp; exact hj)] at hv
      refine ⟨.agg ((List.range (szOf P t)).map fun j => us (off + j)).toArray, ?_, ?_⟩
      · simp only [List.length_map, List.length_range] at hload
        simp [run_sizeOf_a (w := w) ha, hload]
      · refine .agg _ _ ?_ ?_ fun i x u hx hu => ?_
        · simp [List.extract_eq_take_drop]; omega
        · intro v hv
          simp only [List.mem_toArray, List.mem_map, List.mem_range] at hv
          obtain ⟨j, hj, rfl⟩ := hv
          exact (hl (off + j) (by omega)).2
        · simp only [List.extract_eq_take_drop, List.getElem?_map] at hx
          simp only [List.getElem?_toArray, List.getElem?_map] at hu
          rcases Nat.lt_or_ge i (szOf P t) with hi | hi
          · rw [List.getElem?_take_of_lt (by omega), List.getElem?_drop] at hx
            rw [List.getElem?_range hi] at hu
            simp at hu
            subst hu
            cases hc : cs[off + i]? with
            | none => simp [hc] at hx
            | some c =>
              simp [hc] at hx
              subst hx
              exact (hr (off + i) c hc).strip
          · simp [List.getElem?_eq_none (show (List.range (szOf P t)).length ≤ i by simp; exact hi)] at hu
    · cases h
  · rename_i ha
    rw [Sem.run_bind, run_isAgg ha, Result.andThen_ok, if_neg (by simp)]
    cases hc : cs[off]? with
    | none => simp [hc] at h
    | some c =>
      simp [hc] at h
      subst h
      have hlt : off < cs.length := (List.getElem?_eq_some_iff.1 hc).1
      refine ⟨us off, ?_, (hr off c hc).strip⟩
      simp [(hl off hlt).1]
  · cases h
end Go.VM
