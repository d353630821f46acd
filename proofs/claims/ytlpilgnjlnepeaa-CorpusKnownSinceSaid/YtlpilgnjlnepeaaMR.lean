/-
  The abstract machine, part R.
-/
import Derived.Test.YtlpilgnjlnepeaaMJ
import Derived.Great.BuildSlice
set_option linter.all false
namespace Go.VM
variable {P : Program} {G : GS} {w : World} {St : Sts} {O : Nat → Ow} {bs : List Nat} {K K' : List AO} {E E' : Env} {a : Act}

theorem flat_len {sz : Nat} : ∀ {es : List (List AV)}, (∀ e ∈ es, e.length = sz) → es.flatten.length = es.length * sz
  | [], _ => by simp
  | e :: es, h => by
    rw [List.flatten_cons, List.length_append, h e List.mem_cons_self, flat_len (fun x hx => h x (List.mem_cons_of_mem _ hx)), List.length_cons, Nat.succ_mul, Nat.add_comm]
theorem flat_get {sz : Nat} : ∀ {es : List (List AV)} {i : Nat} {e : List AV}, (∀ e ∈ es, e.length = sz) → es[i]? = some e → ∀ j, j < sz → es.flatten[i * sz + j]? = e[j]?
  | [], i, e, _, he, j, _ => by simp at he
  | x :: es, 0, e, h, he, j, hj => by
    simp only [List.getElem?_cons_zero, Option.some.injEq] at he
    subst he
    rw [List.flatten_cons, List.getElem?_append_left (by rw [h x List.mem_cons_self]; omega)]
    simp
  | x :: es, i + 1, e, h, he, j, hj => by
    simp only [List.getElem?_cons_succ] at he
    have hx := h x List.mem_cons_self
    rw [List.flatten_cons, List.getElem?_append_right (by rw [hx, Nat.succ_mul]; omega), ← flat_get (fun x hx => h x (List.mem_cons_of_mem _ hx)) he j hj, hx]
    congr 1
    rw [Nat.succ_mul]; omega
theorem flat_take {sz : Nat} : ∀ {es : List (List AV)} (n : Nat), (∀ e ∈ es, e.length = sz) → (es.take n).flatten = es.flatten.take (n * sz)
  | [], n, _ => by simp
  | e :: es, 0, _ => by simp
  | e :: es, n + 1, h => by
    have he := h e List.mem_cons_self
    rw [List.take_succ_cons, List.flatten_cons, List.flatten_cons, flat_take n (fun x hx => h x (List.mem_cons_of_mem _ hx)), List.take_append, he, Nat.succ_mul, show e.take (n * sz + sz) = e from List.take_of_length_le (by omega), Nat.add_sub_cancel]
theorem flat_drop {sz : Nat} : ∀ {es : List (List AV)} (n : Nat), (∀ e ∈ es, e.length = sz) → (es.drop n).flatten = es.flatten.drop (n * sz)
  | [], n, _ => by simp
  | e :: es, 0, _ => by simp
  | e :: es, n + 1, h => by
    have he := h e List.mem_cons_self
    rw [List.drop_succ_cons, List.flatten_cons, flat_drop n (fun x hx => h x (List.mem_cons_of_mem _ hx)), List.drop_append, he, Nat.succ_mul, show e.drop (n * sz + sz) = [] from List.drop_of_length_le (by omega), List.nil_append, Nat.add_sub_cancel]
theorem flat_set {sz i : Nat} {es : List (List AV)} {news : List AV} (h : ∀ e ∈ es, e.length = sz) (hi : i < es.length) (hn : news.length = sz) : (es.set i news).flatten = splice es.flatten (i * sz) news := by
  rw [List.set_eq_take_append_cons_drop, if_pos hi, List.flatten_append, List.flatten_cons, flat_take i h, flat_drop (i + 1) h]
  unfold splice
  rw [hn, Nat.succ_mul, List.append_assoc]
theorem uni_of {sz : Nat} {es : List (List AV)} (h : ∀ e ∈ es, e.length = sz) : uni sz es = true := by
  unfold uni
  rw [List.all_eq_true]
  intro e he
  simp [h e he]
theorem Cells.mono {G' : GS} {w' : World} {St' : Sts} {xs : List AV} {us : Array Value} (h : Cells G w St xs us) (hG : GLe G G') (hw : Stab w w' St) (hS : ∀ b o, St b o → St' b o) : Cells G' w' St' xs us :=
  ⟨h.1, h.2.1, fun i x u h1 h2 => (h.2.2 i x u h1 h2).mono hG hw hS⟩
theorem Cells.append {xs ys : List AV} {us vs : Array Value} (h : Cells G w St xs us) (k : Cells G w St ys vs) : Cells G w St (xs ++ ys) (us ++ vs) := by
  refine ⟨by simp [h.1, k.1], fun v hv => ?_, fun i x u hx hu => ?_⟩
  · rcases Array.mem_append.1 hv with h1 | h1
    · exact h.2.1 v h1
    · exact k.2.1 v h1
  · rcases Nat.lt_or_ge i xs.length with hi | hi
    · rw [List.getElem?_append_left hi] at hx
      rw [Array.getElem?_append_left (by rw [h.1]; exact hi)] at hu
      exact h.2.2 i x u hx hu
    · rw [List.getElem?_append_right hi] at hx
      rw [Array.getElem?_append_right (by rw [h.1]; exact hi), h.1] at hu
      exact k.2.2 _ x u hx hu
/-- The cells behind a slice by value. -/
theorem VR.rows {u : Bool} {es : List (List AV)} {a : Option Addr} {n cap sz : Nat} (h : VR G w St (.slc u es) (.slice a n cap)) (hu : uni sz es = true) :
    n = es.length ∧ es.length ≤ cap ∧ (a = none → cap = 0) ∧ ∃ arr : Array Value, Cells G w St es.flatten arr ∧
      (es ≠ [] → ∃ b o, a = some ⟨b, o, none⟩ ∧ ∀ (k : Nat) (v : Value), arr[k]? = some v → St b (o + k) ∧ w.cell? ⟨b, o + k, none⟩ = some v) := by
  cases h with
  | slc u es sz' a cap us hc h0 hu' ha hl hr =>
    refine ⟨rfl, hc, ha, ?_⟩
    by_cases hne : es = []
    · subst hne
      exact ⟨#[], ⟨rfl, fun v hv => by simp at hv, fun i x u h => by simp at h⟩, fun h => absurd rfl h⟩
    · obtain ⟨e0, he0⟩ := List.exists_mem_of_ne_nil _ hne
      have hs : sz' = sz := by rw [← hu' e0 he0]; exact uni_spec hu e0 he0
      subst hs
      obtain ⟨b, o, rfl, hcell⟩ := hl hne
      have hidx : ∀ k, k < es.length * sz' → k / sz' < es.length ∧ k % sz' < sz' ∧ k / sz' * sz' + k % sz' = k := fun k hk =>
        ⟨Nat.div_lt_of_lt_mul (by rw [Nat.mul_comm]; exact hk), Nat.mod_lt _ h0, by rw [Nat.mul_comm]; exact Nat.div_add_mod k sz'⟩
      have hget : ∀ (k : Nat) (v : Value), ((List.range (es.length * sz')).map fun k => us (k / sz') (k % sz')).toArray[k]? = some v → k < es.length * sz' ∧ v = us (k / sz') (k % sz') := by
        intro k v hv
        simp only [List.getElem?_toArray, List.getElem?_map] at hv
        by_cases hk : k < es.length * sz'
        · rw [List.getElem?_range hk] at hv
          simp at hv
          exact ⟨hk, hv.symm⟩
        · rw [List.getElem?_eq_none (by simpa using hk)] at hv
          simp at hv
      refine ⟨((List.range (es.length * sz')).map fun k => us (k / sz') (k % sz')).toArray, ⟨by simp [flat_len hu'], fun v hv => ?_, fun k x v hx hv => ?_⟩, fun _ => ⟨b, o, rfl, fun k v hv => ?_⟩⟩
      · obtain ⟨k, hk, he⟩ := Array.mem_iff_getElem.1 hv
        obtain ⟨h1, h2⟩ := hget k v (by rw [Array.getElem?_eq_getElem hk, he])
        obtain ⟨g1, g2, _⟩ := hidx k h1
        rw [h2]
        exact (hcell _ _ g1 g2).2.2
      · obtain ⟨h1, h2⟩ := hget k v hv
        obtain ⟨g1, g2, g3⟩ := hidx k h1
        subst h2
        have he : es[k / sz']? = some es[k / sz'] := List.getElem?_eq_getElem g1
        refine hr (k / sz') es[k / sz'] (k % sz') x he ?_
        rw [← flat_get hu' he _ g2, g3]
        exact hx
      · obtain ⟨h1, h2⟩ := hget k v hv
        obtain ⟨g1, g2, g3⟩ := hidx k h1
        have := hcell _ _ g1 g2
        rw [Nat.add_assoc, g3] at this
        rw [h2]
        exact ⟨this.1, this.2.1⟩
theorem VR.of_rows {u : Bool} {es : List (List AV)} {sz cap : Nat} {a : Option Addr} {arr : Array Value} (hu : ∀ e ∈ es, e.length = sz) (h0 : 0 < sz) (hc : Cells G w St es.flatten arr) (hcap : es.length ≤ cap) (ha : a = none → cap = 0)
    (hl : es ≠ [] → ∃ b o, a = some ⟨b, o, none⟩ ∧ ∀ (k : Nat) (v : Value), arr[k]? = some v → St b (o + k) ∧ w.cell? ⟨b, o + k, none⟩ = some v) : VR G w St (.slc u es) (.slice a es.length cap) := by
  have hbnd : ∀ i j, i < es.length → j < sz → i * sz + j < arr.size := fun i j hi hj => by
    rw [hc.1, flat_len hu]
    have : (i + 1) * sz ≤ es.length * sz := Nat.mul_le_mul_right _ hi
    rw [Nat.succ_mul] at this
    omega
  have hget : ∀ i j, i < es.length → j < sz → arr[i * sz + j]? = some (arr.getD (i * sz + j) undef) := fun i j hi hj => by
    have := hbnd i j hi hj
    simp [Array.getD, this]
  refine .slc u es sz a cap (fun i j => arr.getD (i * sz + j) undef) hcap h0 hu ha (fun hne => ?_) (fun i e j x he hx => ?_)
  · obtain ⟨b, o, e, h1⟩ := hl hne
    refine ⟨b, o, e, fun i j hi hj => ?_⟩
    have h2 := h1 _ _ (hget i j hi hj)
    rw [← Nat.add_assoc] at h2
    exact ⟨h2.1, h2.2, hc.2.1 _ (Array.mem_of_getElem? (hget i j hi hj))⟩
  · have hi := (List.getElem?_eq_some_iff.1 he).1
    have hj : j < sz := by rw [← hu e (List.mem_of_getElem? he)]; exact (List.getElem?_eq_some_iff.1 hx).1
    exact hc.2.2 _ x _ (by rw [flat_get hu he j hj]; exact hx) (hget i j hi hj)

/-! ### a value that is made: what is kept, what is put -/
def dtag : Option Tmp → Ow
  | some t => .tmp t
  | none => .res
theorem EI.keepDst {G' : GS} {w' : World} {St' : Sts} {O' : Nat → Ow} {dst : Option Tmp} {v : AV} {cv : Value} (h : EI G w St O E a.tmps) (hG : GLe G G')
    (hw : Stab w w' St) (hS : ∀ b o, St b o → St' b o) (hO : ∀ b, (O b).isTmp → O b ≠ dtag dst → O' b = O b ∧ w'.heap[b]? = w.heap[b]? ∧ ∀ o, St' b o → St b o)
    (hv : VR G' w' St' v cv) (hown : ∀ es, v = .slc true es → Spare w' St' O' (dtag dst) es cv) (ht : ∀ t, dst = some t → t < a.tmps.size) : EI G' w' St' O' (putD E dst v) (a.put dst cv).tmps := by
  cases dst with
  | none => exact h.keep hG hw hS fun b hb => hO b hb (by intro he; rw [he] at hb; exact hb)
  | some d =>
    have hd := ht d rfl
    show EI G' w' St' O' (E.set d v) (a.tmps.setIfInBounds d cv)
    refine ⟨fun u => ?_, fun u es he => ?_⟩
    · rw [Env.get_set, getD_set]
      by_cases hdu : d = u
      · rw [if_pos hdu, if_pos ⟨hdu, hd⟩]; exact hv
      · rw [if_neg hdu, if_neg (fun h => hdu h.1)]; exact (h.env u).mono hG hw hS
    · rw [Env.get_set] at he
      rw [getD_set]
      by_cases hdu : d = u
      · rw [if_pos hdu] at he; rw [if_pos ⟨hdu, hd⟩, ← hdu]; exact hown es he
      · rw [if_neg hdu] at he; rw [if_neg (fun h => hdu h.1)]
        refine (h.own u es he).keep fun b hb => ?_
        obtain ⟨q1, q2, q3⟩ := hO b (by rw [hb]; trivial) (by rw [hb]; intro h; simp only [dtag] at h; injection h with h; exact hdu h.symm)
        exact ⟨q1.trans hb, q2, q3⟩
theorem wp_made {o : Oper} {v : AV} {cv : Value} {w' : World} {St' : Sts} {O' : Nat → Ow} {next : Act → World → Prop} {Q : Exit → Act → World → Prop} (hH : HI G w St O bs K) (hE : EI G w St O E a.tmps) (ht : ∀ t, o.dst = some t → t < a.tmps.size)
    (hrun : (execOp a.eval o).run P w = .ok (.value cv) w') (hstep : Step O w St O' w' St') (hkeep : ∀ b, O b ≠ .no → O b ≠ dtag o.dst → O' b = O b ∧ w'.heap[b]? = w.heap[b]? ∧ ∀ o, St' b o → St b o)
    (hlow : ∀ b, O' b ≠ .no → b < w'.heap.size) (hstl : ∀ b o, St' b o → b < w'.heap.size) (hv : VR G w' St' v cv) (hsp : ∀ es, v = .slc true es → Spare w' St' O' (dtag o.dst) es cv)
    (hK : Goes G w St O bs K (putD E o.dst v) a o.dst next) : o.wp P a w next Q := by
  unfold Oper.wp
  rw [hrun, Oper.upon_value]
  refine hK cv w' G St' O' ?_ ?_ hstep (GLe.refl G)
  · refine hH.keep (GSub.refl G) hH.gst hstep.stb hstep.mono (fun b hb => hkeep b (by intro h; rw [h] at hb; exact hb) ?_) hlow hstl
    intro h; rw [h] at hb; cases hd : o.dst <;> (rw [hd] at hb; exact hb)
  · exact hE.keepDst (GLe.refl G) hstep.stb hstep.mono (fun b hb hn => hkeep b (by intro h; rw [h] at hb; exact hb) hn) hv hsp ht
theorem Goes.step {O1 : Nat → Ow} {dst : Option Tmp} {next : Act → World → Prop} (h : Goes G w St O bs K E a dst next) (hs : Step O w St O1 w St) : Goes G w St O1 bs K E a dst next :=
  fun cv w' G' St' O' h1 h2 h3 h4 => h cv w' G' St' O' h1 h2 (hs.trans h3) h4

/-- A new row that does not change any more. -/
def addS (St : Sts) (b lo hi : Nat) : Sts := fun c o => St c o ∨ (c = b ∧ lo ≤ o ∧ o < hi)
theorem Step.row (hH : HI G w St O bs K) (ob : Obj) (p : Ow) (n : Nat) : Step O w St (setO O w.heap.size p) (w.alloc ob) (addS St w.heap.size 0 n) where
  os := rfl
  tape := rfl
  output := rfl
  size := by simp
  old := fun b hb _ => heap_alloc_old w ob b hb
  stb := Stab.alloc w St ob hH.stl
  mono := fun _ _ h => .inl h
  new := fun _ _ h => by
    rcases h with h | ⟨rfl, _⟩
    · exact .inl h
    · exact .inr (.inr (Nat.le_refl _))
  own := fun b hb => by
    unfold setO at hb
    split at hb
    · rename_i he; right; omega
    · left; exact hb
theorem wp_row {o : Oper} {es : List (List AV)} {sz cap : Nat} {e : TypeId} {arr rest : Array Value} {next : Act → World → Prop} {Q : Exit → Act → World → Prop} (hH : HI G w St O bs K) (hE : EI G w St O E a.tmps) (ht : ∀ t, o.dst = some t → t < a.tmps.size)
    {w0 : World} (hw0 : w0.heap = w.heap ∧ w0.os = w.os ∧ w0.tape = w.tape ∧ w0.output = w.output)
    (hrun : (execOp a.eval o).run P w = .ok (.value (.slice (some ⟨w.heap.size, 0, none⟩) es.length cap)) (w0.alloc (.cells (arr ++ rest) e))) (hu : ∀ e ∈ es, e.length = sz) (h0 : 0 < sz) (hc : Cells G w St es.flatten arr)
    (hcap : es.length ≤ cap) (hrest : es.length = cap ∨ es ≠ [] ∧ rest.size = (cap - es.length) * sz) (hK : Goes G w St O bs K (putD E o.dst (.slc true es)) a o.dst next) : o.wp P a w next Q := by
  have hsz : arr.size = es.length * sz := hc.1.trans (flat_len hu)
  have hnew : (w0.alloc (.cells (arr ++ rest) e)).heap[w.heap.size]? = some (.cells (arr ++ rest) e (0, 0)) := by
    have := heap_alloc_new w0 (.cells (arr ++ rest) e)
    rw [hw0.1] at this
    exact this
  have hold : ∀ b, b < w.heap.size → (w0.alloc (.cells (arr ++ rest) e)).heap[b]? = w.heap[b]? := fun b hb => by
    rw [heap_alloc_old w0 _ b (by rw [hw0.1]; exact hb), hw0.1]
  have hsize : (w0.alloc (.cells (arr ++ rest) e)).heap.size = w.heap.size + 1 := by simp [hw0.1]
  have hstab : Stab w (w0.alloc (.cells (arr ++ rest) e)) St := fun b x hb => by
    have hh := hold b (hH.stl b x hb)
    exact ⟨World.cell?_of_block (w := w) (a := ⟨b, x, none⟩) hh, fun es c he => hh.trans he⟩
  have hstep : Step O w St (setO O w.heap.size (dtag o.dst)) (w0.alloc (.cells (arr ++ rest) e)) (addS St w.heap.size 0 (es.length * sz)) := by
    refine ⟨hw0.2.1, hw0.2.2.1, hw0.2.2.2, by rw [hsize]; omega, fun b hb _ => hold b hb, hstab, fun _ _ h => .inl h, fun _ _ h => ?_, fun b hb => ?_⟩
    · rcases h with h | ⟨rfl, _⟩
      · exact .inl h
      · exact .inr (.inr (Nat.le_refl _))
    · unfold setO at hb
      split at hb
      · rename_i he; right; omega
      · left; exact hb
  refine wp_made hH hE ht hrun hstep (fun b hb hn => ?_) (fun b hb => ?_) (fun b o h => ?_) (VR.of_rows hu h0 (hc.mono (GLe.refl G) hstab (fun _ _ h => .inl h)) hcap (by simp) fun _ => ⟨_, _, rfl, fun k v hk => ?_⟩) (fun es' he => ?_) hK
  · have hlt := hH.low b hb
    refine ⟨by unfold setO; rw [if_neg (by omega)], hold b hlt, fun o ho => ?_⟩
    rcases ho with ho | ⟨rfl, _⟩
    · exact ho
    · omega
  · rw [hsize]
    unfold setO at hb
    split at hb
    · rename_i he; omega
    · have := hH.low b hb; omega
  · rw [hsize]
    rcases h with h | ⟨rfl, _⟩
    · have := hH.stl b o h; omega
    · omega
  · have hlt : k < arr.size := (Array.getElem?_eq_some_iff.1 hk).1
    refine ⟨.inr ⟨rfl, by omega, by omega⟩, ?_⟩
    rw [Nat.zero_add, cell_of_row _ _ _ _ _ _ hnew, Array.getElem?_append_left hlt]
    exact hk
  · injection he with _ he
    subst he
    refine ⟨_, _, _, rfl, ?_⟩
    rcases hrest with h | ⟨hne, h⟩
    · exact .inl h
    · refine .inr ⟨_, _, _, sz, rfl, by simp [setO], hnew, ?_, hne, hu, fun o ho hs => ?_⟩
      · rw [Array.size_append, hsz, h, ← Nat.add_mul]; congr 1; omega
      · rcases hs with hs | ⟨_, _, hs⟩
        · exact Nat.lt_irrefl _ (hH.stl _ _ hs)
        · omega
end Go.VM
