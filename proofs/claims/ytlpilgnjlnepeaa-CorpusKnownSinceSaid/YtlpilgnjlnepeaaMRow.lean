/-
  The abstract machine, part Row.
-/
import Derived.Test.YtlpilgnjlnepeaaMFn
import Derived.Deep.Slices
import Derived.SizedLaws
set_option linter.all false
namespace Go.VM
variable {P : Program} {H : Type} {enc : TypeId × Value → H} {w : World} {G : GS} {St : Sts}

def GoodL (R : TypeId → List AV → Prop) : List TypeId → List AV → Prop
  | [], cs => cs = []
  | t :: ts, cs => ∃ a b, cs = a ++ b ∧ R t a ∧ GoodL R ts b
/-- Well-formed cells of a type: whole numbers, bools, strings, slices and structs of them. -/
def Good (P : Program) : Nat → TypeId → List AV → Prop
  | 0, _, _ => False
  | n + 1, t, cs =>
    match P.underlying t with
    | some .bool => ∃ b, cs = [.bool b]
    | some (.int k) => ∃ i, cs = [.int k i] ∧ (Lit.int k i).wf = true
    | some .string => ∃ s, cs = [.str s] ∧ s.size ≤ reachBytes
    | some (.slice e) => ∃ es, cs = [.slc false es] ∧ es.length * P.bytesOf e ≤ reachBytes ∧ ∀ x ∈ es, Good P n e x
    | some (.struct fs) => GoodL (Good P n) (fs.toList.map (·.type)) cs
    | _ => False
def layB (P : Program) : Nat → List Field → Nat → Bool
  | off, [], n => off == n
  | off, f :: fs, n => f.offset == off && layB P (off + P.cellsOf f.type) fs n
/-- A list of types that is closed under their parts. -/
def closedT (P : Program) (S : List TypeId) : Bool :=
  S.all fun t =>
    match P.underlying t with
    | some .bool | some (.int _) | some .string => P.cellsOf t == 1
    | some (.slice e) => S.contains e && P.cellsOf e != 0
    | some (.struct fs) => layB P 0 fs.toList (P.cellsOf t) && fs.toList.all fun f => S.contains f.type
    | _ => false
def VL (G : GS) (w : World) (St : Sts) (xs : List AV) (us : List Value) : Prop := us.length = xs.length ∧ (∀ u ∈ us, u.oneCell' = true) ∧ ∀ (i : Nat) (x : AV) (u : Value), xs[i]? = some x → us[i]? = some u → VR G w St x u
theorem VL.one {x : AV} {u : Value} (h : VR G w St x u) (h1 : u.oneCell' = true) : VL G w St [x] [u] :=
  ⟨rfl, fun v hv => by simp at hv; rw [hv]; exact h1, fun i y v hy hv => by
    cases i with
    | zero => simp at hy hv; subst hy hv; exact h
    | succ i => simp at hy⟩
theorem VL.append {xs ys : List AV} {us vs : List Value} (h : VL G w St xs us) (k : VL G w St ys vs) : VL G w St (xs ++ ys) (us ++ vs) := by
  refine ⟨by simp [h.1, k.1], fun u hu => (List.mem_append.1 hu).elim (h.2.1 u) (k.2.1 u), fun i x u hx hu => ?_⟩
  rcases Nat.lt_or_ge i xs.length with hi | hi
  · rw [List.getElem?_append_left hi] at hx
    rw [List.getElem?_append_left (by rw [h.1]; exact hi)] at hu
    exact h.2.2 i x u hx hu
  · rw [List.getElem?_append_right hi] at hx
    rw [List.getElem?_append_right (by rw [h.1]; exact hi), h.1] at hu
    exact k.2.2 _ x u hx hu
theorem weightsAll_mem {e : TypeId} {d : DataW H} : ∀ {l : List (DataW H)}, d ∈ l → ∀ x ∈ d.weights P e, x ∈ DataW.weightsAll P e l
  | [], h, _, _ => by cases h
  | y :: l, h, x, hx => by
    simp only [DataW.weightsAll, List.mem_append]
    rcases List.mem_cons.1 h with h | h
    · subst h; exact .inl hx
    · exact .inr (weightsAll_mem h x hx)
theorem mapM_cons_some {α β : Type} {f : α → Option β} {a : α} {l : List α} {r : List β} (h : (a :: l).mapM f = some r) : ∃ b r', f a = some b ∧ l.mapM f = some r' ∧ r = b :: r' := by
  rw [List.mapM_cons] at h
  cases hf : f a with
  | none => simp [hf] at h
  | some b =>
    cases hl : l.mapM f with
    | none => simp [hf, hl] at h
    | some r' => simp [hf, hl] at h; exact ⟨b, r', rfl, rfl, h.symm⟩
theorem mapM_get {α β : Type} {f : α → Option β} : ∀ {l : List α} {r : List β}, l.mapM f = some r → r.length = l.length ∧ ∀ (i : Nat) (a : α), l[i]? = some a → f a = r[i]?
  | [], r, h => by simp at h; subst h; exact ⟨rfl, fun i a h => by simp at h⟩
  | a :: l, r, h => by
    obtain ⟨b, r', h1, h2, rfl⟩ := mapM_cons_some h
    obtain ⟨k1, k2⟩ := mapM_get h2
    refine ⟨by simp [k1], fun i x hx => ?_⟩
    cases i with
    | zero => simp at hx; subst hx; simpa using h1
    | succ i => simpa using k2 i x (by simpa using hx)
theorem cells_spec {base : Nat} {a : Addr} {n : Nat} {cs : List Value} (h : w.cells? base a n = some cs) : cs.length = n ∧ ∀ j, j < n → w.cell? (a.add j) = cs[j]? := by
  unfold World.cells? at h
  split at h
  · obtain ⟨h1, h2⟩ := mapM_get h
    refine ⟨by simpa using h1, fun j hj => h2 j j (by simp [hj])⟩
  · cases h
theorem weightsEach_mem {d : DataW H} {t : TypeId} : ∀ {ts : List TypeId} {ds : List (DataW H)} {i : Nat}, ts[i]? = some t → ds[i]? = some d → ∀ x ∈ d.weights P t, x ∈ DataW.weightsEach P ts ds
  | [], _, _, h, _, _, _ => by simp at h
  | _ :: _, [], _, _, h, _, _ => by simp at h
  | t' :: ts, d' :: ds, 0, h, k, x, hx => by
    simp at h k
    subst h k
    simp only [DataW.weightsEach, List.mem_append]
    exact .inl hx
  | t' :: ts, d' :: ds, i + 1, h, k, x, hx => by
    simp only [DataW.weightsEach, List.mem_append]
    exact .inr (weightsEach_mem (by simpa using h) (by simpa using k) x hx)
theorem fields_good {R : TypeId → List AV → Prop} {cs : List Value} {N : Nat} (hN : cs.length = N) : ∀ (fs : List Field) (off : Nat), layB P off fs N = true →
    (∀ (i : Nat) (f : Field), fs[i]? = some f → ∃ avs, R f.type avs ∧ VL G w St avs ((cs.drop f.offset).take (P.cellsOf f.type))) → ∃ avs, GoodL R (fs.map (·.type)) avs ∧ VL G w St avs (cs.drop off)
  | [], off, hl, _ => by
    simp only [layB, beq_iff_eq] at hl
    refine ⟨[], rfl, ?_⟩
    have h0 : cs.drop off = [] := List.drop_of_length_le (by omega)
    rw [h0]
    exact ⟨rfl, by simp, by simp⟩
  | f :: fs, off, hl, h => by
    simp only [layB, Bool.and_eq_true, beq_iff_eq] at hl
    obtain ⟨a, ha, hva⟩ := h 0 f rfl
    obtain ⟨b, hb, hvb⟩ := fields_good hN fs _ hl.2 fun i g hg => h (i + 1) g (by simpa using hg)
    refine ⟨a ++ b, ⟨a, b, rfl, ha, hb⟩, ?_⟩
    have := hva.append hvb
    rw [hl.1, ← List.drop_drop, List.take_append_drop] at this
    exact this
theorem addr_add2 (a : Addr) (i j : Nat) : (a.add i).add j = a.add (i + j) := by
  unfold Addr.add
  by_cases hi : i = 0 <;> by_cases hj : j = 0 <;> simp [hi, hj, Nat.add_assoc]
theorem trod_good {S : List TypeId} (hS : closedT P S = true) {base : Nat} {spare : Nat → Bool} {held : Bool} (hst : ∀ b o v, w.cell? ⟨b, o, none⟩ = some v → St b o) :
    ∀ (fuel : Nat) (t : TypeId) (cs : List Value) (d : DataW H) (p : List MemPlace), S.contains t = true → DataW.trod enc P w base spare held fuel t cs = some (d, p) → (∀ x ∈ d.weights P t, x ≤ reachBytes) →
      ∃ avs, Good P fuel t avs ∧ VL G w St avs cs
  | 0, _, _, _, _, _, h, _ => by cases h
  | n + 1, t, cs, d, p, ht, h, hw => by
    have hSt := List.all_eq_true.1 hS t (by simpa using ht)
    simp only [Good]
    cases hu : P.underlying t with
    | none => rw [hu] at hSt; cases hSt
    | some ds =>
      rw [hu] at hSt
      cases ds with
      | bool =>
        obtain ⟨b, rfl, _⟩ := DataW.trod_bool hu h
        exact ⟨[.bool b], ⟨b, rfl⟩, .one (.bool b) rfl⟩
      | int k =>
        obtain ⟨i, rfl, _, hwf⟩ := DataW.trod_int hu h
        exact ⟨[.int k i], ⟨i, rfl, hwf⟩, .one (.int k i) rfl⟩
      | string =>
        obtain ⟨s, rfl, hd, _⟩ := DataW.trod_string hu h
        injection hd with hd _
        refine ⟨[.str s], ⟨s, rfl, ?_⟩, .one (.str s) rfl⟩
        have := hw s.data.toList.length (by rw [hd]; simp [DataW.weights])
        simpa using this
      | slice e =>
        simp only [Bool.and_eq_true, bne_iff_ne, ne_eq] at hSt
        obtain ⟨hSe, hz⟩ := hSt
        rcases DataW.trod_slice hu h with ⟨rfl, _⟩ | ⟨a, len, cap, elems, rest, n', hn, rfl, hd, hb, hlc, hcm, hel, hcells, _, _⟩
        · exact ⟨[.slc false []], ⟨[], rfl, by simp, fun x hx => by cases hx⟩, .one (VR.nilSlice false) rfl⟩
        · injection hn with hn
          subst hn
          injection hd with hd _
          have hone : ∀ i, i < len → ∃ avs cs', w.cells? base (a.add (i * P.cellsOf e)) (P.cellsOf e) = some cs' ∧ Good P n e avs ∧ VL G w St avs cs' := fun i hi => by
            have h1 := hcells i hi
            have hlt : i < elems.length := by omega
            rw [List.getElem?_eq_getElem hlt] at h1
            obtain ⟨cs', c1, c2⟩ := Option.bind_eq_some_iff.1 h1
            obtain ⟨avs, g1, g2⟩ := trod_good hS hst n e cs' elems[i].1 elems[i].2 hSe c2 fun x hx => hw x (by
              rw [hd]
              simp only [DataW.weights, hu, List.mem_cons, List.mem_append]
              exact .inr (.inl (weightsAll_mem (List.mem_map.2 ⟨elems[i], List.getElem_mem hlt, rfl⟩) x hx)))
            exact ⟨avs, cs', c1, g1, g2⟩
          -- the elements, chosen
          let A : Nat → List AV := fun i => if h : i < len then Classical.choose (hone i h) else []
          let B : Nat → List Value := fun i => if h : i < len then Classical.choose (Classical.choose_spec (hone i h)) else []
          have hA : ∀ i, i < len → w.cells? base (a.add (i * P.cellsOf e)) (P.cellsOf e) = some (B i) ∧ Good P n e (A i) ∧ VL G w St (A i) (B i) := fun i hi => by
            have := Classical.choose_spec (Classical.choose_spec (hone i hi))
            simp only [A, B, dif_pos hi]
            exact this
          have hes : ∀ (i : Nat) (x : List AV), ((List.range len).map A)[i]? = some x → i < len ∧ x = A i := fun i x hx => by
            rw [List.getElem?_map] at hx
            by_cases hi : i < len
            · rw [List.getElem?_range hi] at hx; simp at hx; exact ⟨hi, hx.symm⟩
            · rw [List.getElem?_eq_none (by simpa using hi)] at hx; simp at hx
          have hlenA : ∀ i, i < len → (A i).length = P.cellsOf e := fun i hi => by
            obtain ⟨h1, _, h3⟩ := hA i hi
            rw [← h3.1]; exact (cells_spec h1).1
          have hcell : ∀ i j, i < len → j < P.cellsOf e → w.cell? (a.add (i * P.cellsOf e + j)) = some ((B i).getD j undef) ∧ ((B i).getD j undef).oneCell' = true := fun i j hi hj => by
            obtain ⟨h1, _, h3⟩ := hA i hi
            obtain ⟨k1, k2⟩ := cells_spec h1
            have h4 := k2 j hj
            have hlt : j < (B i).length := by omega
            rw [addr_add2, List.getElem?_eq_getElem hlt] at h4
            have h5 : (B i).getD j undef = (B i)[j] := by simp [List.getD, hlt]
            rw [h5]
            exact ⟨h4, h3.2.1 _ (List.getElem_mem hlt)⟩
          refine ⟨[.slc false ((List.range len).map A)], ⟨_, rfl, ?_, fun x hx => ?_⟩, .one ?_ rfl⟩
          · have := hw ((elems.length + rest.length) * P.bytesOf e) (by rw [hd]; simp [DataW.weights, hu])
            rw [List.length_map, List.length_range]
            exact Nat.le_trans (Nat.mul_le_mul_right _ (by omega)) this
          · obtain ⟨i, hi⟩ := List.mem_iff_getElem?.1 hx
            obtain ⟨h1, rfl⟩ := hes i x hi
            exact (hA i h1).2.1
          · have hv := VR.slc (G := G) (w := w) (St := St) false ((List.range len).map A) (P.cellsOf e) (some a) cap (fun i j => (B i).getD j undef) (by simpa using hlc) (Nat.pos_of_ne_zero hz) (fun x hx => by
              obtain ⟨i, hi⟩ := List.mem_iff_getElem?.1 hx
              obtain ⟨h1, rfl⟩ := hes i x hi
              exact hlenA i h1) (by simp) (fun hne => by
              have h0 : 0 < len := by
                rcases Nat.eq_zero_or_pos len with h | h
                · subst h; exact absurd rfl hne
                · exact h
              have hc0 := (hcell 0 0 h0 (Nat.pos_of_ne_zero hz)).1
              obtain ⟨ab, ao, as⟩ := a
              have has : as = none := by
                simp only [Nat.zero_mul, Nat.add_zero, Addr.add, if_true] at hc0
                unfold World.cell? at hc0
                cases as with
                | none => rfl
                | some s => split at hc0 <;> simp at hc0
              subst has
              refine ⟨ab, ao, rfl, fun i j hi hj => ?_⟩
              have hi' : i < len := by simpa using hi
              have := hcell i j hi' hj
              rw [Addr.add_lit, ← Nat.add_assoc] at this
              exact ⟨hst _ _ _ this.1, this.1, this.2⟩) (fun i x j y hx hy => by
              obtain ⟨hi, rfl⟩ := hes i x hx
              obtain ⟨h1, _, h3⟩ := hA i hi
              have hlt : j < (B i).length := by rw [h3.1]; exact lt_of hy
              exact h3.2.2 j y _ hy (by simp [List.getD, hlt]))
            simpa using hv
      | struct fs =>
        simp only [Bool.and_eq_true, List.all_eq_true] at hSt
        obtain ⟨xs, n', hn, hd, hcl, hxl, hf⟩ := DataW.trod_struct hu h
        injection hn with hn
        subst hn
        injection hd with hd _
        obtain ⟨avs, g1, g2⟩ := fields_good (R := Good P n) (G := G) (w := w) (St := St) hcl fs.toList 0 hSt.1 fun i f hi => by
          have hi' : fs[i]? = some f := by simpa using hi
          have h1 := hf i f hi'
          have hlt : i < xs.length := by rw [hxl]; exact (Array.getElem?_eq_some_iff.1 hi').1
          rw [List.getElem?_eq_getElem hlt] at h1
          exact trod_good hS hst n f.type _ xs[i].1 xs[i].2 (hSt.2 f (List.mem_of_getElem? hi)) h1 fun x hx => hw x (by
            rw [hd]
            simp only [DataW.weights, hu]
            exact weightsEach_mem (i := i) (by rw [List.getElem?_map, hi]; rfl) (by rw [List.getElem?_map, List.getElem?_eq_getElem hlt]; rfl) x hx)
        exact ⟨avs, g1, by simpa using g2⟩
      | _ => cases hSt
end Go.VM
