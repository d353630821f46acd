/-
  The abstract machine, part I.
-/
import Derived.Test.YtlpilgnjlnepeaaMG
set_option linter.all false
namespace Go.VM
variable {P : Program} {G : GS} {w : World} {St : Sts} {O : Nat → Ow}

/-! ### temporaries -/
theorem EI.put {E : Env} {T : Array Value} (h : EI G w St O E T) {t : Nat} {v : AV} {cv : Value} (hv : VR G w St v cv) (hown : ∀ es, v = .slc true es → Spare w St O (.tmp t) es cv) (ht : t < T.size) : EI G w St O (E.set t v) (T.setIfInBounds t cv) where
  env := fun u => by
    rw [Env.get_set, getD_set]
    by_cases htu : t = u
    · rw [if_pos htu, if_pos ⟨htu, ht⟩]; exact hv
    · rw [if_neg htu, if_neg (fun h => htu h.1)]; exact h.env u
  own := fun u es he => by
    rw [Env.get_set] at he
    rw [getD_set]
    by_cases htu : t = u
    · rw [if_pos htu] at he; rw [if_pos ⟨htu, ht⟩, ← htu]; exact hown es he
    · rw [if_neg htu] at he; rw [if_neg (fun h => htu h.1)]; exact h.own u es he
def retag (O : Nat → Ow) (p q : Ow) : Nat → Ow := fun b => if O b = p then q else O b
/-- A right given away: the temporary keeps what it holds. -/
theorem EI.give {E : Env} {T : Array Value} (h : EI G w St O E T) (t : Nat) (q : Ow) {es : List (List AV)} (he : E.get t = .slc true es) : EI G w St (retag O (.tmp t) q) (E.set t (.slc false es)) T where
  env := fun u => by
    rw [Env.get_set]
    by_cases htu : t = u
    · subst htu
      rw [if_pos rfl]
      have := h.env t
      rw [he] at this
      exact this.strip
    · rw [if_neg htu]; exact h.env u
  own := fun u es' he' => by
    rw [Env.get_set] at he'
    by_cases htu : t = u
    · rw [if_pos htu] at he'; simp at he'
    · rw [if_neg htu] at he'
      refine (h.own u es' he').keep fun b hb => ⟨?_, rfl, fun _ h => h⟩
      unfold retag
      rw [if_neg (by rw [hb]; simp; omega)]
      exact hb
/-- A right handed from one temporary to another. -/
theorem EI.pass {E : Env} {T : Array Value} (h : EI G w St O E T) (t d : Nat) {es : List (List AV)} (he : E.get t = .slc true es) (hd : d < T.size) :
    EI G w St (retag O (.tmp t) (.tmp d)) ((E.set t (.slc false es)).set d (.slc true es)) (T.setIfInBounds d (T.getD t undef)) where
  env := fun u => by
    have ht := h.env t
    rw [he] at ht
    rw [Env.get_set, getD_set]
    by_cases hdu : d = u
    · rw [if_pos hdu, if_pos ⟨hdu, hd⟩]; exact ht
    · rw [if_neg hdu, if_neg (fun h => hdu h.1), Env.get_set]
      by_cases htu : t = u
      · subst htu; rw [if_pos rfl]; exact ht.strip
      · rw [if_neg htu]; exact h.env u
  own := fun u es' he' => by
    rw [Env.get_set] at he'
    rw [getD_set]
    by_cases hdu : d = u
    · subst hdu
      rw [if_pos rfl] at he'
      rw [if_pos ⟨rfl, hd⟩]
      injection he' with _ he'
      subst he'
      refine (h.own t es he).keep fun b hb => ⟨?_, rfl, fun _ h => h⟩
      unfold retag; rw [if_pos hb]
    · rw [if_neg hdu, Env.get_set] at he'
      rw [if_neg (fun h => hdu h.1)]
      by_cases htu : t = u
      · rw [if_pos htu] at he'; simp at he'
      · rw [if_neg htu] at he'
        refine (h.own u es' he').keep fun b hb => ⟨?_, rfl, fun _ h => h⟩
        unfold retag
        rw [if_neg (by rw [hb]; simp; omega)]
        exact hb
theorem HI.retag_tmp {bs : List Nat} {H : List AO} (h : HI G w St O bs H) (t : Nat) (q : Ow) : HI G w St (retag O (.tmp t) q) bs H :=
  h.keep (GSub.refl G) h.gst (Stab.refl w St) (fun _ _ h => h) (fun b hb => ⟨by unfold retag; rw [if_neg]; intro he; rw [he] at hb; exact hb, rfl, fun _ h => h⟩)
    (fun b hb => h.low b (by intro h0; apply hb; unfold retag; rw [if_neg (by rw [h0]; simp)]; exact h0)) h.stl
theorem Step.retag (O : Nat → Ow) (w : World) (St : Sts) (p q : Ow) (hp : p ≠ .no) : Step O w St (retag O p q) w St :=
  let r := Step.refl O w St
  ⟨r.os, r.tape, r.output, r.size, r.old, r.stb, r.mono, r.new, fun b hb => .inl fun h0 => hb (by unfold VM.retag; rw [if_neg (by rw [h0]; exact fun h => hp h.symm)]; exact h0)⟩
/-- What a temporary hands on does not hang on its right. -/
theorem EI.gives {an : Ann} {d : Option Tmp} {o : Op} {E : Env} {T : Array Value} (h : EI G w St O E T) : ∀ u, VR G w St ((gives an d o E).get u) (T.getD u undef) := by
  intro u
  unfold VM.gives
  split
  · exact h.env u
  · rename_i t r _
    split
    · rename_i es he
      rw [Env.get_set]
      by_cases htu : t = u
      · subst htu; rw [if_pos rfl]
        have := h.env t
        rw [he] at this
        exact this.strip
      · rw [if_neg htu]; exact h.env u
    · exact h.env u

/-! ### one object of the heap turned -/
theorem HI.turnA {G' : GS} {w' : World} {St' : Sts} {O' : Nat → Ow} {bs : List Nat} {H : List AO} (h : HI G w St O bs H) (id : Nat) (o' : AO) (hG : GLe G G') (hA : ∀ id', id' ≠ id → G' id' = G id') (hg : ∀ id, H.length ≤ id → G' id = none)
    (hw : Stab w w' St) (hS : ∀ b o, St b o → St' b o)
    (hO : ∀ b id', id' ≠ id → (O b = .obj id' ∨ ∃ j, O b = .cell id' j) → O' b = O b ∧ w'.heap[b]? = w.heap[b]? ∧ ∀ o, St' b o → St b o)
    (ho : OR G' w' St' O' id o') (hlow : ∀ b, O' b ≠ .no → b < w'.heap.size) (hstl : ∀ b o, St' b o → b < w'.heap.size)
    (hbas : ∀ b ∈ bs, id < b → cloO (fun i => decide (i < b)) o' = true) : HI G' w' St' O' bs (H.set id o') where
  gst := by simpa using hg
  low := hlow
  stl := hstl
  bas := fun b hb id' x hlt hx => by
    rw [List.getElem?_set] at hx
    split at hx
    · rename_i he
      subst he
      split at hx
      · injection hx with hx; subst hx; exact hbas b hb hlt
      · cases hx
    · exact h.bas b hb id' x hlt hx
  obj := fun id' x hx => by
    rw [List.getElem?_set] at hx
    split at hx
    · rename_i he
      subst he
      split at hx
      · injection hx with hx; subst hx; exact ho
      · cases hx
    · rename_i hne
      exact (h.obj id' x hx).keep hG (hA id' (fun h => hne h.symm)) hw hS fun b hb => hO b id' (fun h => hne h.symm) hb
theorem HI.turn {w' : World} {St' : Sts} {O' : Nat → Ow} {bs : List Nat} {H : List AO} (h : HI G w St O bs H) (id : Nat) (o' : AO) (hG : GLe G G) (hg : ∀ id, H.length ≤ id → G id = none)
    (hw : Stab w w' St) (hS : ∀ b o, St b o → St' b o)
    (hO : ∀ b id', id' ≠ id → (O b = .obj id' ∨ ∃ j, O b = .cell id' j) → O' b = O b ∧ w'.heap[b]? = w.heap[b]? ∧ ∀ o, St' b o → St b o)
    (ho : OR G w' St' O' id o') (hlow : ∀ b, O' b ≠ .no → b < w'.heap.size) (hstl : ∀ b o, St' b o → b < w'.heap.size)
    (hbas : ∀ b ∈ bs, id < b → cloO (fun i => decide (i < b)) o' = true) : HI G w' St' O' bs (H.set id o') :=
  h.turnA id o' hG (fun _ _ => rfl) hg hw hS hO ho hlow hstl hbas
theorem okPut_spec {bs : List Nat} {id : Nat} {news : List AV} (h : okPut bs id news = true) : ∀ b ∈ bs, id < b → cloL (fun i => decide (i < b)) news = true := by
  intro b hb hlt
  have := List.all_eq_true.1 h b hb
  simp only [Bool.or_eq_true, decide_eq_true_eq] at this
  rcases this with h1 | h1
  · omega
  · exact h1

/-! ### new objects -/
def setG (G : GS) (id : Nat) (g : GO) : GS := fun i => if i = id then some g else G i
theorem GLe.set {id : Nat} {g : GO} (h : G id = none) : GLe G (setG G id g) := fun i x hx => by
  refine ⟨x, ?_, x.le_refl⟩
  unfold setG
  split
  · rename_i he; subst he; rw [h] at hx; cases hx
  · exact hx
theorem setG_ne {id i : Nat} {g : GO} (h : i ≠ id) : setG G id g i = G i := by simp [setG, h]
def setO (O : Nat → Ow) (b : Nat) (p : Ow) : Nat → Ow := fun i => if i = b then p else O i
theorem Stab.alloc (w : World) (St : Sts) (o : Obj) (hs : ∀ b o, St b o → b < w.heap.size) : Stab w (w.alloc o) St := fun b x hb => by
  have hh := heap_alloc_old w o b (hs b x hb)
  exact ⟨World.cell?_of_block (w := w) (w' := w.alloc o) (a := ⟨b, x, none⟩) hh, fun es c he => hh.trans he⟩
theorem Step.alloc {bs : List Nat} {H : List AO} (h : HI G w St O bs H) (ob : Obj) (p : Ow) : Step O w St (setO O w.heap.size p) (w.alloc ob) St where
  os := rfl
  tape := rfl
  output := rfl
  size := by simp
  old := fun b hb _ => heap_alloc_old w ob b hb
  stb := Stab.alloc w St ob h.stl
  mono := fun _ _ h => h
  new := fun _ _ h => .inl h
  own := fun b hb => by
    unfold setO at hb
    split at hb
    · rename_i he; right; omega
    · left; exact hb
/-- The heap grown by one object, either at its end or at a place that was kept for it. -/
inductive Grows (K : List AO) (nid : Nat) (o : AO) : List AO → Prop where
  | push (h : nid = K.length) : Grows K nid o (K ++ [o])
  | fill (h : nid < K.length) : Grows K nid o (K.set nid o)
theorem Grows.get {K K' : List AO} {nid : Nat} {o : AO} (h : Grows K nid o K') : K'[nid]? = some o ∧ (∀ i, i ≠ nid → K'[i]? = K[i]?) ∧ K.length ≤ K'.length ∧ nid < K'.length ∧ (∀ i, K'.length ≤ i → K.length ≤ i ∧ i ≠ nid) := by
  cases h with
  | push h =>
    subst h
    refine ⟨by simp, fun i hi => ?_, by simp, by simp, fun i hi => by simp at hi; omega⟩
    rcases Nat.lt_or_ge i K.length with h1 | h1
    · rw [List.getElem?_append_left h1]
    · rw [List.getElem?_append_right h1, List.getElem?_eq_none (by simp; omega), List.getElem?_eq_none h1]
  | fill h => exact ⟨by simp [h], fun i hi => by rw [List.getElem?_set_ne (fun h => hi h.symm)], by simp, by simpa using h, fun i hi => by simp at hi; omega⟩
theorem HI.grow {bs : List Nat} {K K' : List AO} {nid : Nat} {o : AO} (h : HI G w St O bs K) (hg : Grows K nid o K') (hn : G nid = none) (hb : ∀ b ∈ bs, b ≤ nid) (g : GO) (ob : Obj)
    (ho : OR (setG G nid g) (w.alloc ob) St (setO O w.heap.size (.obj nid)) nid o) : HI (setG G nid g) (w.alloc ob) St (setO O w.heap.size (.obj nid)) bs K' := by
  obtain ⟨g1, g2, g3, g4, g5⟩ := hg.get
  have hlow : ∀ b, setO O w.heap.size (.obj nid) b ≠ .no → b < (w.alloc ob).heap.size := by
    intro b hb
    unfold setO at hb
    split at hb
    · rename_i he; simp; omega
    · have := h.low b hb; simp; omega
  have hstl : ∀ b o, St b o → b < (w.alloc ob).heap.size := fun b o hs => by have := h.stl b o hs; simp; omega
  exact {
    low := hlow
    stl := hstl
    gst := fun id hid => by
      obtain ⟨q1, q2⟩ := g5 id hid
      unfold setG; rw [if_neg q2]; exact h.gst id q1
    bas := fun b hbm id x hlt hx => by
      rw [g2 id (by have := hb b hbm; omega)] at hx
      exact h.bas b hbm id x hlt hx
    obj := fun id x hx => by
      by_cases he : id = nid
      · subst he; rw [g1] at hx; injection hx with hx; subst hx; exact ho
      · rw [g2 id he] at hx
        refine (h.obj id x hx).keep (GLe.set hn) (setG_ne he) (Stab.alloc w St ob h.stl) (fun _ _ h => h) fun b hb => ?_
        have hlt : b < w.heap.size := h.low b (by intro h0; rw [h0] at hb; rcases hb with h | ⟨_, h⟩ <;> cases h)
        exact ⟨by unfold setO; rw [if_neg (by omega)], heap_alloc_old w ob b hlt, fun _ h => h⟩ }
theorem EI.alloc {bs : List Nat} {H : List AO} {E : Env} {T : Array Value} (hH : HI G w St O bs H) (h : EI G w St O E T) {nid : Nat} (hn : G nid = none) (g : GO) (ob : Obj) (p : Ow) : EI (setG G nid g) (w.alloc ob) St (setO O w.heap.size p) E T :=
  h.keep (GLe.set hn) (Stab.alloc w St ob hH.stl) (fun _ _ h => h) fun b hb => by
    have hlt : b < w.heap.size := hH.low b (by intro h0; rw [h0] at hb; exact hb)
    exact ⟨by unfold setO; rw [if_neg (by omega)], heap_alloc_old w ob b hlt, fun _ h => h⟩
end Go.VM
