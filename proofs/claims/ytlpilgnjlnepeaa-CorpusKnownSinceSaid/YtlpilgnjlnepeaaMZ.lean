/-
  The abstract machine, part Z.
-/
import Derived.Test.YtlpilgnjlnepeaaMY
set_option linter.all false
namespace Go.VM
variable {P : Program} {G : GS} {w : World} {St : Sts} {O : Nat → Ow} {bs : List Nat} {K K' : List AO} {E E' : Env} {a : Act} {an : Ann} {C : CallF}

/-! ### what leaves a function -/
/-- The blocks of the objects from n on do not change any more. -/
def endS (O : Nat → Ow) (n : Nat) (St : Sts) : Sts := fun b o => St b o ∨ ∃ i, n ≤ i ∧ O b = .obj i
def endO (n : Nat) : Ow → Ow
  | .obj i => if n ≤ i then .no else .obj i
  | .cell i j => if n ≤ i then .no else .cell i j
  | .res => .res
  | _ => .no
theorem endO_no {n : Nat} {p : Ow} (h : endO n p ≠ .no) : p ≠ .no := by intro e; subst e; exact h rfl
theorem endO_low {n id : Nat} {p : Ow} (hid : id < n) (h : p = .obj id ∨ ∃ j, p = .cell id j) : endO n p = p := by
  rcases h with h | ⟨j, h⟩ <;> rw [h] <;> simp only [endO] <;> rw [if_neg (by omega)]
theorem endO_heap {n : Nat} {p : Ow} (h : (endO n p).heap) : ∃ id, id < n ∧ (p = .obj id ∨ ∃ j, p = .cell id j) := by
  cases p with
  | obj i =>
    simp only [endO] at h
    split at h
    · exact h.elim
    · exact ⟨i, by omega, .inl rfl⟩
  | cell i j =>
    simp only [endO] at h
    split at h
    · exact h.elim
    · exact ⟨i, by omega, .inr ⟨j, rfl⟩⟩
  | _ => exact h.elim
theorem HI.ends {n : Nat} (h : HI G w St O bs K) (hn : n ≤ K.length) (hb : n ∈ bs) : HI (cutG G (below n)) w (endS O n St) (fun q => endO n (O q)) bs (K.take n) := by
  have h1 := h.trunc (O' := fun q => endO n (O q)) hn (fun id o hlt ho => h.bas n hb id o hlt ho) (fun q id hlt hq => endO_low hlt hq) (fun q hq => endO_no hq)
  refine h1.keep (GSub.refl _) h1.gst (Stab.refl w St) (fun _ _ h => .inl h) (fun q hq => ⟨rfl, rfl, fun o ho => ?_⟩) h1.low (fun q o ho => ?_)
  · rcases ho with ho | ⟨i, hi, ho⟩
    · exact ho
    · obtain ⟨id, hlt, hq2⟩ := endO_heap hq
      rw [ho] at hq2
      rcases hq2 with h | ⟨_, h⟩
      · injection h with h; omega
      · cases h
  · rcases ho with ho | ⟨i, hi, ho⟩
    · exact h.stl q o ho
    · exact h.low q (by rw [ho]; simp)
theorem Step.ends (n : Nat) (hH : HI G w St O bs K) : Step O w St (fun q => endO n (O q)) w (endS O n St) where
  os := rfl
  tape := rfl
  output := rfl
  size := Nat.le_refl _
  old := fun _ _ _ => rfl
  stb := Stab.refl w St
  mono := fun _ _ h => .inl h
  new := fun b o h => by
    rcases h with h | ⟨i, _, h⟩
    · exact .inl h
    · right; left; rw [h]; simp
  own := fun b hb => .inl (endO_no hb)
theorem splitL {α : Type} {l : List α} {n m : Nat} : l.extract n (n + m) = (l.drop n).take m := by rw [List.extract_eq_take_drop, Nat.add_sub_cancel_left]
theorem reifyP_VR {n : Nat} {x : AV} {v : Value} (hH : HI G w St O bs K) (h : VR G w St x v) : VR G w (endS O n St) (reifyP n K x) v := by
  have hm : VR G w (endS O n St) x v := h.mono (GLe.refl G) (Stab.refl w St) fun _ _ h => .inl h
  unfold reifyP
  split
  · rename_i id off
    split
    · rename_i hle
      split
      · rename_i cs hcs
        obtain ⟨b, hGb, rfl⟩ := h.inv_ptr
        obtain ⟨b', vals, e, g1, g2, g3, g4, g5, g6⟩ := hH.obj id _ hcs
        rw [hGb] at g1
        injection g1 with g1
        injection g1 with g1
        subst g1
        have := VR.iptr (G := G) (w := w) (St := endS O n St) (cs.map AV.strip) off b 0 (fun j => vals.getD j undef) (fun j hj => by
          rw [List.length_map] at hj
          have hj' : j < vals.size := by omega
          rw [Nat.zero_add, cell_of_row w b j vals e (0, 0) g3]
          exact ⟨.inr ⟨id, hle, g2⟩, get_val hj', (g6 j cs[j] _ (List.getElem?_eq_getElem hj) (get_val hj')).2.1⟩) (fun j x hx => by
          rw [List.getElem?_map] at hx
          cases hc : cs[j]? with
          | none => simp [hc] at hx
          | some c =>
            simp [hc] at hx
            subst hx
            have hj' : j < vals.size := by have := lt_of hc; omega
            exact ((g6 j c _ hc (get_val hj')).1.mono (GLe.refl G) (Stab.refl w St) fun _ _ h => .inl h).strip)
        rwa [Nat.zero_add] at this
      · exact .poison _
    · exact hm
  · rename_i id
    split
    · rename_i hle
      split
      · rename_i ks vs hks
        obtain ⟨b, hGb, rfl⟩ := h.inv_map
        obtain ⟨b', es, clock, g1, g2, g3, g4, g5, g6, g7, g8⟩ := hH.obj id _ hks
        rw [hGb] at g1
        injection g1 with g1
        injection g1 with g1
        subst g1
        exact .vmap ks vs b es clock g3 (.inr ⟨id, hle, g2⟩) g5 g6 (fun i e x h1 h2 => (g7 i e x h1 h2).mono (GLe.refl G) (Stab.refl w St) fun _ _ h => .inl h) (fun i e x h1 h2 => (g8 i e x h1 h2).mono (GLe.refl G) (Stab.refl w St) fun _ _ h => .inl h)
      · exact .poison _
    · exact hm
  · rename_i id ver off m
    split
    · rename_i hle
      split
      · rename_i v' es hes
        split
        · rename_i hc
          obtain ⟨rfl, hoff⟩ := hc
          obtain ⟨b, cap, sz, g1, g2, g3, g4, g5, g6, g7⟩ := (hH.obj id _ hes).row
          have hv := h.inv_arr g1 rfl
          subst hv
          have hlen : (es.extract off (off + m)).length = m := by rw [splitL, List.length_take, List.length_drop]; omega
          have hu : ∀ e ∈ es.extract off (off + m), e.length = sz := fun e he => by
            rw [splitL] at he
            exact g4 e (List.mem_of_mem_drop (List.mem_of_mem_take he))
          cases b with
          | none =>
            have hc0 := g6 rfl
            have := VR.of_rows (G := G) (w := w) (St := endS O n St) (u := false) (a := none) (cap := cap - off) (arr := #[]) hu g2 (by
              have : es.extract off (off + m) = [] := List.length_eq_zero_iff.1 (by omega)
              rw [this]; exact ⟨rfl, fun v hv => by simp at hv, fun i x u h => by simp at h⟩) (by omega) (fun _ => by omega) (fun hne => absurd (List.length_eq_zero_iff.1 (by omega)) hne)
            rw [hlen] at this
            exact this
          | some b =>
            obtain ⟨vals, e, q1, q2, q3, q4, q5⟩ := g7 b rfl
            have hfl : off * sz + m * sz ≤ es.flatten.length := by rw [flat_len g4, ← Nat.add_mul]; exact Nat.mul_le_mul_right _ hoff
            have hcut := (Cells.cut q5 hfl).mono (GLe.refl G) (Stab.refl w St) (fun _ _ h => .inl h : ∀ b o, St b o → endS O n St b o)
            rw [← flat_extract g4 off m] at hcut
            have := VR.of_rows (u := false) (a := some ⟨b, off * sz, none⟩) (cap := cap - off) hu g2 hcut (by omega) (by simp) (fun _ => ⟨b, off * sz, rfl, fun k v hk => ⟨.inr ⟨id, hle, q1⟩, by
              rw [cell_of_row _ _ _ _ _ _ q2]
              rw [Array.getElem?_extract] at hk
              split at hk
              · exact hk
              · cases hk⟩⟩)
            rw [hlen] at this
            exact this
        · exact .poison _
      · exact .poison _
    · exact hm
  · exact hm
theorem reify_VR {n : Nat} {x : AV} {v : Value} (hH : HI G w St O bs K) (h : VR G w St x v) : VR G w (endS O n St) (reify n K x) v := by
  unfold reify
  split
  · rename_i f xs ys
    cases h with
    | func f xs ys us vs hx hy hrx hry =>
      refine .func f _ _ us vs (by simpa using hx) (by simpa using hy) (fun i x u h1 h2 => ?_) (fun i x u h1 h2 => ?_)
      · rw [List.getElem?_map] at h1
        cases hc : xs[i]? with
        | none => simp [hc] at h1
        | some c => simp [hc] at h1; subst h1; exact reifyP_VR hH (hrx i c u hc h2)
      · rw [List.getElem?_map] at h1
        cases hc : ys[i]? with
        | none => simp [hc] at h1
        | some c => simp [hc] at h1; subst h1; exact reifyP_VR hH (hry i c u hc h2)
  · exact reifyP_VR hH h
theorem reifyR_VR {n : Nat} {x : AV} {v : Value} (hH : HI G w St O bs K) (h : VR G w St x v) : VR G w (endS O n St) (reifyR n K x) v := by
  unfold reifyR
  split
  · rename_i vs
    obtain ⟨us, rfl, h1, h2⟩ := h.inv_tup
    refine .tup _ us (by simpa using h1) fun i x u hx hu => ?_
    rw [List.getElem?_map] at hx
    cases hc : vs[i]? with
    | none => simp [hc] at hx
    | some c => simp [hc] at hx; subst hx; exact reify_VR hH (h2 i c u hc hu)
  · exact reify_VR hH h
theorem reifyR_flag {n : Nat} {x : AV} {es : List (List AV)} (h : reifyR n K x = .slc true es) : x = .slc true es := by
  unfold reifyR at h
  split at h
  · cases h
  · unfold reify at h
    split at h
    · cases h
    · unfold reifyP at h
      split at h
      · (repeat' split at h) <;> simp at h
      · (repeat' split at h) <;> simp at h
      · (repeat' split at h) <;> simp at h
      · exact h
/-- A right that moves on: no cell is written. -/
theorem Spare.tag {p q : Ow} {es : List (List AV)} {v : Value} {O' : Nat → Ow} {St' : Sts} (h : Spare w St O p es v) (hO : ∀ b, O b = p → O' b = q ∧ ∀ o, St' b o → St b o) : Spare w St' O' q es v :=
  h.keep fun b hb => ⟨(hO b hb).1, rfl, (hO b hb).2⟩
end Go.VM
