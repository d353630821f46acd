/-
  The abstract machine, part L.
-/
import Derived.Test.YtlpilgnjlnepeaaMK
set_option linter.all false
namespace Go.VM
variable {P : Program} {G : GS} {w : World} {St : Sts} {O : Nat → Ow} {bs : List Nat} {K K' : List AO} {E E' : Env} {a : Act}

theorem cloL_append {p : Nat → Bool} : ∀ (xs ys : List AV), cloL p (xs ++ ys) = (cloL p xs && cloL p ys)
  | [], ys => by simp [cloL]
  | x :: xs, ys => by simp [cloL, cloL_append xs ys, Bool.and_assoc]
theorem cloL_take {p : Nat → Bool} : ∀ (xs : List AV) (n : Nat), cloL p xs = true → cloL p (xs.take n) = true
  | [], n, _ => by simp [cloL]
  | x :: xs, 0, _ => by simp [cloL]
  | x :: xs, n + 1, h => by simp only [cloL, Bool.and_eq_true] at h; simp [cloL, h.1, cloL_take xs n h.2]
theorem cloL_drop {p : Nat → Bool} : ∀ (xs : List AV) (n : Nat), cloL p xs = true → cloL p (xs.drop n) = true
  | [], n, _ => by simp [cloL]
  | x :: xs, 0, h => by simpa using h
  | x :: xs, n + 1, h => by simp only [cloL, Bool.and_eq_true] at h; simpa using cloL_drop xs n h.2
theorem cloL_splice {p : Nat → Bool} {cs news : List AV} (off : Nat) (h : cloL p cs = true) (k : cloL p news = true) : cloL p (splice cs off news) = true := by
  unfold splice
  rw [cloL_append, cloL_append, cloL_take cs _ h, k, cloL_drop cs _ h]
  rfl
theorem cloL_set {p : Nat → Bool} : ∀ (xs : List AV) (i : Nat) (x : AV), cloL p xs = true → clo p x = true → cloL p (xs.set i x) = true
  | [], i, x, h, _ => by simpa using h
  | y :: xs, 0, x, h, k => by simp only [cloL, Bool.and_eq_true] at h; simp [cloL, h.2, k]
  | y :: xs, i + 1, x, h, k => by simp only [cloL, Bool.and_eq_true] at h; simp [cloL, h.1, cloL_set xs i x h.2 k]
theorem cloLL_set {p : Nat → Bool} : ∀ {es : List (List AV)} {i : Nat} {x : List AV}, cloLL p es = true → cloL p x = true → cloLL p (es.set i x) = true
  | [], i, x, h, _ => by simpa using h
  | y :: es, 0, x, h, k => by simp only [cloLL, Bool.and_eq_true] at h; simp [cloLL, h.2, k]
  | y :: es, i + 1, x, h, k => by simp only [cloLL, Bool.and_eq_true] at h; simp [cloLL, h.1, cloLL_set h.2 k]
theorem cloLL_append {p : Nat → Bool} : ∀ (xs ys : List (List AV)), cloLL p (xs ++ ys) = (cloLL p xs && cloLL p ys)
  | [], ys => by simp [cloLL]
  | x :: xs, ys => by simp [cloLL, cloLL_append xs ys, Bool.and_assoc]
theorem cloLL_take {p : Nat → Bool} : ∀ (xs : List (List AV)) (n : Nat), cloLL p xs = true → cloLL p (xs.take n) = true
  | [], n, _ => by simp [cloLL]
  | x :: xs, 0, _ => by simp [cloLL]
  | x :: xs, n + 1, h => by simp only [cloLL, Bool.and_eq_true] at h; simp [cloLL, h.1, cloLL_take xs n h.2]
theorem cloLL_flatten {p : Nat → Bool} : ∀ (xs : List (List AV)), cloL p xs.flatten = cloLL p xs
  | [] => by simp [cloL, cloLL]
  | x :: xs => by simp [cloLL, cloL_append, cloLL_flatten xs]
theorem clo_strip {p : Nat → Bool} (x : AV) : clo p x.strip = clo p x := by cases x <;> rfl
theorem get_val {vals : Array Value} {j : Nat} {d : Value} (h : j < vals.size) : vals[j]? = some (vals.getD j d) := by simp [Array.getD, h]

/-- An object read: the world stays. -/
theorem wp_read {an : Ann} {o : Oper} {v : AV} {cv : Value} {next : Act → World → Prop} {Q : Exit → Act → World → Prop} (hH : HI G w St O bs K) (hE : EI G w St O E a.tmps) (ht : ∀ t, o.dst = some t → t < a.tmps.size)
    (hrun : (execOp a.eval o).run P w = .ok (.value cv) w) (hnh : ∀ t, hands an o.dst o.op t = false) (hv : VR G w St v cv) (hvf : ∀ es, v ≠ .slc true es)
    (hK : Goes G w St O bs K (putD (gives an o.dst o.op E) o.dst v) a o.dst next) : o.wp P a w next Q := by
  unfold Oper.wp
  rw [hrun, Oper.upon_value]
  rw [gives_none hnh] at hK
  exact hK cv w G St O hH (hE.put_dst hv (fun es t _ h => absurd h (hvf es)) ht) (Step.refl O w St) (GLe.refl G)

/-! rows that are written in place -/
/-- Cells at the head of an array. -/
def Pre (G : GS) (w : World) (St : Sts) (xs : List AV) (us : Array Value) : Prop :=
  xs.length ≤ us.size ∧ ∀ (k : Nat) (c : AV) (v : Value), xs[k]? = some c → us[k]? = some v → VR G w St c v ∧ v.oneCell' = true
theorem Pre.splice {xs news : List AV} {us vs r : Array Value} {off : Nat} (h : Pre G w St xs us) (k : Cells G w St news vs) (hl : off + news.length ≤ xs.length) (hr : r.toList = VM.splice us.toList off vs.toList) : Pre G w St (VM.splice xs off news) r ∧ r.size = us.size := by
  have hvn : vs.toList.length = news.length := by rw [Array.length_toList]; exact k.1
  have hul : us.toList.length = us.size := Array.length_toList
  have hsz : r.size = us.size := by
    rw [← Array.length_toList, hr]
    have := h.1
    simp only [VM.splice, List.length_append, List.length_take, List.length_drop, hvn, hul]
    omega
  refine ⟨⟨?_, fun i x u hx hu => ?_⟩, hsz⟩
  · have := h.1
    simp only [VM.splice, List.length_append, List.length_take, List.length_drop, hsz]
    omega
  · rw [splice_get _ _ _ hl] at hx
    rw [← Array.getElem?_toList, hr, splice_get _ _ _ (by rw [hvn, hul]; have := h.1; omega), hvn] at hu
    by_cases h1 : i < off
    · rw [if_pos h1] at hx hu
      exact h.2 i x u hx (by simpa using hu)
    · rw [if_neg h1] at hx hu
      by_cases h2 : i < off + news.length
      · rw [if_pos h2] at hx hu
        have hu' : vs[i - off]? = some u := by simpa using hu
        exact ⟨k.2.2 _ x u hx hu', k.2.1 u (Array.mem_of_getElem? hu')⟩
      · rw [if_neg h2] at hx hu
        exact h.2 _ x u hx (by simpa using hu)
theorem Pre.mono {G' : GS} {w' : World} {St' : Sts} {xs : List AV} {us : Array Value} (h : Pre G w St xs us) (hG : GLe G G') (hw : Stab w w' St) (hS : ∀ b o, St b o → St' b o) : Pre G' w' St' xs us :=
  ⟨h.1, fun i x u h1 h2 => ⟨(h.2 i x u h1 h2).1.mono hG hw hS, (h.2 i x u h1 h2).2⟩⟩
/-- What is known of a row's object. -/
theorem OR.row {id ver : Nat} {es : List (List AV)} (h : OR G w St O id (.arr ver es)) : ∃ b cap sz, G id = some (.arr ver b cap sz) ∧ 0 < sz ∧ es.length ≤ cap ∧ (∀ e ∈ es, e.length = sz) ∧ (es = [] → cap = 0) ∧ (b = none → cap = 0) ∧ ∀ b', b = some b' →
      ∃ vals e, O b' = .obj id ∧ w.heap[b']? = some (.cells vals e (0, 0)) ∧ vals.size = cap * sz ∧ (∀ o, ¬ St b' o) ∧ Pre G w St es.flatten vals := by
  obtain ⟨b, cap, sz, h1, h2, h3, h4, h5, h6, h7⟩ := h
  refine ⟨b, cap, sz, h1, h2, h3, h4, h5, h6, fun b' hb' => ?_⟩
  obtain ⟨vals, e, q1, q2, q3, q4, q5⟩ := h7 b' hb'
  exact ⟨vals, e, q1, q2, q3, q4, by rw [flat_len h4, q3]; exact Nat.mul_le_mul_right _ h3, q5⟩
theorem OR.of_row {id ver cap sz : Nat} {b : Option Nat} {es : List (List AV)} (h1 : G id = some (.arr ver b cap sz)) (h2 : 0 < sz) (h3 : es.length ≤ cap) (h4 : ∀ e ∈ es, e.length = sz) (h5 : es = [] → cap = 0) (h6 : b = none → cap = 0)
    (h7 : ∀ b', b = some b' → ∃ vals e, O b' = .obj id ∧ w.heap[b']? = some (.cells vals e (0, 0)) ∧ vals.size = cap * sz ∧ (∀ o, ¬ St b' o) ∧ Pre G w St es.flatten vals) : OR G w St O id (.arr ver es) :=
  ⟨b, cap, sz, h1, h2, h3, h4, h5, h6, fun b' hb' => by obtain ⟨vals, e, q1, q2, q3, q4, q5⟩ := h7 b' hb'; exact ⟨vals, e, q1, q2, q3, q4, q5.2⟩⟩
theorem VR.inv_arr {id ver off n v1 cap sz : Nat} {b : Option Nat} {v : Value} (h : VR G w St (.arr id ver off n) v) (hG : G id = some (.arr v1 b cap sz)) (he : v1 = ver) : v = arrVal b cap sz off n := by
  cases h with
  | arr id ver off n v1' b' cap' sz' v g hv hc h1 =>
    rw [hG] at g
    injection g with g
    injection g with g1 g2 g3 g4
    subst g1 g2 g3 g4
    exact hc he.symm
theorem VR.inv_aptr {id ver i j v1 cap sz : Nat} {b : Option Nat} {v : Value} (h : VR G w St (.aptr id ver i j) v) (hG : G id = some (.arr v1 b cap sz)) (he : v1 = ver) : v = arrPtr b sz i j := by
  cases h with
  | aptr id ver i j v1' b' cap' sz' v g hv hc h1 =>
    rw [hG] at g
    injection g with g
    injection g with g1 g2 g3 g4
    subst g1 g2 g3 g4
    exact hc he.symm
theorem flat_at {sz i : Nat} {es : List (List AV)} {e : List AV} (hu : ∀ e ∈ es, e.length = sz) (he : es[i]? = some e) : ∃ A B, es.flatten = A ++ (e ++ B) ∧ A.length = i * sz ∧ ∀ news, (es.set i news).flatten = A ++ (news ++ B) := by
  have hi : i < es.length := (List.getElem?_eq_some_iff.1 he).1
  have hei : es[i] = e := (List.getElem?_eq_some_iff.1 he).2
  refine ⟨(es.take i).flatten, (es.drop (i + 1)).flatten, ?_, ?_, fun news => ?_⟩
  · have h1 : es = es.take i ++ e :: es.drop (i + 1) := by rw [← hei, List.getElem_cons_drop, List.take_append_drop]
    conv => lhs; rw [h1]
    rw [List.flatten_append, List.flatten_cons]
  · rw [flat_len (fun x hx => hu x (List.mem_of_mem_take hx)), List.length_take, Nat.min_eq_left (by omega)]
  · rw [List.set_eq_take_append_cons_drop, if_pos hi, List.flatten_append, List.flatten_cons]
theorem splice_in {α : Type} (A e B news : List α) (j : Nat) (h : j + news.length ≤ e.length) : splice (A ++ (e ++ B)) (A.length + j) news = A ++ (splice e j news ++ B) := by
  unfold splice
  rw [List.take_append, List.drop_append, List.take_of_length_le (by omega), Nat.add_sub_cancel_left, List.drop_of_length_le (by omega), show A.length + j + news.length - A.length = j + news.length by omega, List.take_append_of_le_length (by omega), List.drop_append_of_le_length h]
  simp [List.append_assoc]
theorem flat_splice {sz i j : Nat} {es : List (List AV)} {e news : List AV} (hu : ∀ e ∈ es, e.length = sz) (he : es[i]? = some e) (hj : j + news.length ≤ e.length) : (es.set i (splice e j news)).flatten = splice es.flatten (i * sz + j) news := by
  obtain ⟨A, B, h1, h2, h3⟩ := flat_at hu he
  rw [h3, h1, ← h2, splice_in A e B news j hj]
theorem wp_load_arr {an : Ann} {o : Oper} {t : TypeId} {x : Operand} {id ver i j : Nat} {o0 o1 : AO} {v : AV} {next : Act → World → Prop} {Q : Exit → Act → World → Prop}
    (hop : o.op = .load t x) (hH : HI G w St O bs K) (hE : EI G w St O E a.tmps) (ht : ∀ t, o.dst = some t → t < a.tmps.size) (heq : inOf an o.dst (.load t x) E x = .aptr id ver i j) (hid : K[id]? = some o0) (hk : loadArr P t ver i j o0 = some (v, o1))
    (hK : Goes G w St O bs K (putD (gives an o.dst o.op E) o.dst (tidy o.op v)) a o.dst next) : o.wp P a w next Q := by
  have hnh : ∀ u, hands an o.dst o.op u = false := fun u => by rw [hop]; rfl
  have hx := inOf_VR hE an o.dst (.load t x) x
  rw [heq] at hx
  have hobj := hH.obj id o0 hid
  unfold loadArr at hk
  split at hk
  · rename_i ver' es
    split at hk
    · rename_i hv
      subst hv
      split at hk
      · rename_i e he
        split at hk
        · rename_i y hy
          simp only [Option.some.injEq, Prod.mk.injEq] at hk
          obtain ⟨rfl, rfl⟩ := hk
          obtain ⟨b, cap, sz, g1, g2, g3, g4, g5, g6, g7⟩ := hobj.row
          have hρ := hx.inv_aptr g1 rfl
          have hi := (List.getElem?_eq_some_iff.1 he).1
          cases b with
          | none => have := g6 rfl; omega
          | some b =>
            obtain ⟨vals, et, q1, q2, q3, q4, q5⟩ := g7 b rfl
            have hel : e.length = sz := g4 e (List.mem_of_getElem? he)
            have hbnd : ∀ k, k < e.length → i * sz + k < vals.size ∧ es.flatten[i * sz + k]? = e[k]? := fun k hk => by
              have h1 := flat_get g4 he k (by omega)
              have h2 : (es.flatten[i * sz + k]?).isSome := by rw [h1]; simp [hk]
              have h3 : i * sz + k < es.flatten.length := by simpa using h2
              exact ⟨Nat.lt_of_lt_of_le h3 q5.1, h1⟩
            obtain ⟨cv, r1, r2⟩ := run_loadVar (P := P) (w := w) (G := G) (St := St) (b := b) (o := i * sz) (us := fun k => vals.getD (i * sz + k) undef) hy (fun k hk => by
                obtain ⟨h1, h2⟩ := hbnd k hk
                rw [cell_of_row w b _ vals et (0, 0) q2]
                exact ⟨get_val h1, (q5.2 _ e[k] _ (by rw [h2]; simp [hk]) (get_val h1)).2⟩) (fun k y hyk => by
                have hkl := (List.getElem?_eq_some_iff.1 hyk).1
                obtain ⟨h1, h2⟩ := hbnd k hkl
                exact (q5.2 _ y _ (by rw [h2]; exact hyk) (get_val h1)).1)
            have htd : tidy o.op y.strip = y.strip := by simp [tidy, flagOp, hop]
            rw [htd] at hK
            refine wp_read hH hE ht ?_ hnh r2.strip (strip_not _) hK
            unfold execOp
            simp only [arrPtr, Option.map_some] at hρ
            simp [hop, Instr.loadAt, Instr.sureAddr, hρ, r1]
        · cases hk
      · cases hk
    · cases hk
  · cases hk
theorem wp_load {an : Ann} {nid : Nat} {o : Oper} {t : TypeId} {x : Operand} {id : Nat} {wr : Bool} {news : List AV} {k : AO → Option (AV × AO)} {o0 o1 : AO} {v : AV} {next : Act → World → Prop} {Q : Exit → Act → World → Prop}
    (hop : o.op = .load t x) (hH : HI G w St O bs K) (hE : EI G w St O E a.tmps) (ht : ∀ t, o.dst = some t → t < a.tmps.size)
    (hq : req P an nid o.dst o.op (o.op.operands.toList.map (inOf an o.dst o.op E)) = some (.upd id wr news k)) (hid : K[id]? = some o0) (hk : k o0 = some (v, o1))
    (hK : Goes G w St O bs (if wr then K.set id o1 else K) (putD (gives an o.dst o.op E) o.dst (tidy o.op v)) a o.dst next) : o.wp P a w next Q := by
  have hnh : ∀ u, hands an o.dst o.op u = false := fun u => by rw [hop]; rfl
  rw [hop] at hq
  simp only [req, Op.operands, List.map_cons, List.map_nil] at hq
  split at hq
  · rename_i id' off heq
    simp only [Option.some.injEq, Req.upd.injEq] at hq
    obtain ⟨rfl, hwr, rfl, rfl⟩ := hq
    simp only [List.cons.injEq, and_true] at heq
    have hx := inOf_VR hE an o.dst (.load t x) x
    rw [heq] at hx
    obtain ⟨b, hGb, hρ⟩ := hx.inv_ptr
    have hobj := hH.obj id' o0 hid
    unfold loadBox at hk
    split at hk
    · rename_i cs
      obtain ⟨b', vals, e, g1, g2, g3, g4, g5, g6⟩ := hobj
      rw [hGb] at g1
      injection g1 with g1
      injection g1 with g1
      subst g1
      have hcell : ∀ j, j < cs.length → w.cell? ⟨b, 0 + j, none⟩ = some (vals.getD j undef) ∧ (vals.getD j undef).oneCell' = true := by
        intro j hj
        have hj' : j < vals.size := by rw [g4]; exact hj
        rw [Nat.zero_add, cell_of_row w b j vals e (0, 0) g3]
        exact ⟨get_val hj', (g6 j cs[j] _ (List.getElem?_eq_getElem hj) (get_val hj')).2.1⟩
      have hrel : ∀ (j : Nat) (y : AV), cs[j]? = some y → VR G w St y (vals.getD j undef) := fun j y hy => (g6 j y _ hy (get_val (by rw [g4]; exact (List.getElem?_eq_some_iff.1 hy).1))).1
      split at hk
      · rename_i hmv
        simp only [Bool.and_eq_true, beq_iff_eq] at hmv
        have hwr' : wr = true := by rw [← hwr]; simp [hmv.1, hmv.2]
        subst hwr'
        split at hk
        · rename_i c hc
          simp only [Option.some.injEq, Prod.mk.injEq] at hk
          obtain ⟨rfl, rfl⟩ := hk
          have hlt : off < cs.length := (List.getElem?_eq_some_iff.1 hc).1
          have hrun : (execOp a.eval o).run P w = .ok (.value (vals.getD off undef)) w := by
            have hl : (loadVar t ⟨b, off, none⟩).run P w = .ok (vals.getD off undef) w := by
              unfold loadVar
              rw [Sem.run_bind, run_isAgg hmv.2, Result.andThen_ok, if_neg (by simp)]
              have := (hcell off hlt).1
              rw [Nat.zero_add] at this
              simp [this]
            unfold execOp
            simp [hop, Instr.loadAt, Instr.sureAddr, hρ, hl]
          obtain ⟨d, hd⟩ : ∃ d, o.dst = some d := by
            cases hdd : o.dst with
            | none => rw [hdd] at hmv; simp [Ann.mem] at hmv
            | some d => exact ⟨d, rfl⟩
          have htd : tidy o.op c = c := by simp [tidy, flagOp, hop]
          rw [htd, gives_none hnh, hd] at hK
          simp only [if_true] at hK
          unfold Oper.wp
          rw [hrun, Oper.upon_value, hd]
          by_cases hfl : ∃ es, c = .slc true es
          · obtain ⟨es, rfl⟩ := hfl
            have hsp := (g6 off _ _ hc (get_val (d := undef) (by rw [g4]; exact hlt))).2.2 es rfl
            refine hK _ w G St (retag O (.cell id' off) (.tmp d)) ?_ ?_ (Step.retag O w St _ _ (by simp)) (GLe.refl G)
            · refine hH.turn id' _ (GLe.refl G) hH.gst (Stab.refl w St) (fun _ _ h => h) (fun b1 id1 hne hb1 => ⟨?_, rfl, fun _ h => h⟩) ?_ ?_ hH.stl ?_
              · unfold retag; rw [if_neg]; intro h
                rcases hb1 with h1 | ⟨j, h1⟩
                · rw [h1] at h; cases h
                · rw [h1] at h; injection h with h; exact hne h
              · refine ⟨b, vals, e, hGb, by unfold retag; rw [if_neg (by rw [g2]; simp)]; exact g2, g3, by simpa using g4, g5, fun j c v hc' hv => ?_⟩
                rw [List.getElem?_set] at hc'
                split at hc'
                · rename_i hje
                  subst hje
                  (try rw [if_pos hlt] at hc')
                  injection hc' with hc'
                  subst hc'
                  obtain ⟨q1, q2, q3⟩ := g6 off _ v hc hv
                  exact ⟨q1.strip, q2, fun es h => absurd h (strip_not _ _)⟩
                · rename_i hje
                  obtain ⟨q1, q2, q3⟩ := g6 j c v hc' hv
                  refine ⟨q1, q2, fun es h => (q3 es h).keep fun b1 hb1 => ⟨?_, rfl, fun _ h => h⟩⟩
                  unfold retag; rw [if_neg (by rw [hb1]; simp; omega)]; exact hb1
              · intro b1 hb1
                apply hH.low
                intro h0
                apply hb1
                unfold retag; rw [if_neg (by rw [h0]; simp)]; exact h0
              · intro b1 hb1 hlt1
                have := hH.bas b1 hb1 id' _ hlt1 hid
                simp only [cloO] at this ⊢
                exact cloL_set _ _ _ this (by rw [clo_strip]; exact cloL_get this hc)
            · refine EI.put ?_ (hrel off _ hc) (fun es' he' => ?_) (ht d hd)
              · refine hE.keep (GLe.refl G) (Stab.refl w St) (fun _ _ h => h) fun b1 hb1 => ⟨?_, rfl, fun _ h => h⟩
                unfold retag; rw [if_neg]; intro h; rw [h] at hb1; exact hb1
              · injection he' with _ he'
                subst he'
                refine hsp.keep fun b1 hb1 => ⟨?_, rfl, fun _ h => h⟩
                unfold retag; rw [if_pos hb1]
          · have hset : cs.set off c.strip = cs := by
              have : c.strip = c := by
                cases c with
                | slc u es => cases u with
                  | true => exact absurd ⟨es, rfl⟩ hfl
                  | false => rfl
                | _ => rfl
              rw [this]
              apply List.ext_getElem?
              intro i
              rw [List.getElem?_set]
              split
              · rename_i h; subst h; (try rw [if_pos hlt]); exact hc.symm
              · rfl
            have hsetK : K.set id' (.box (cs.set off c.strip)) = K := by
              rw [hset]
              apply List.ext_getElem?
              intro i
              rw [List.getElem?_set]
              split
              · rename_i h; subst h; (try rw [if_pos (List.getElem?_eq_some_iff.1 hid).1]); exact hid.symm
              · rfl
            rw [hsetK] at hK
            exact hK _ w G St O hH (hE.put (hrel off _ hc) (fun es he => absurd ⟨es, he⟩ hfl) (ht d hd)) (Step.refl O w St) (GLe.refl G)
        · cases hk
      · rename_i hmv
        have hwr' : wr = false := by rw [← hwr]; simpa using hmv
        subst hwr'
        cases hrc : readCells P t cs off with
        | none => simp [hrc] at hk
        | some v' =>
          simp only [hrc, Option.map_some, Option.some.injEq, Prod.mk.injEq] at hk
          obtain ⟨rfl, rfl⟩ := hk
          obtain ⟨cv, h1, h2⟩ := run_loadVar (P := P) (o := 0) hrc hcell hrel
          rw [Nat.zero_add] at h1
          have htd : tidy o.op v' = v' := by simp [tidy, flagOp, hop]
          rw [htd] at hK
          refine wp_read hH hE ht ?_ hnh h2 (readCells_flag hrc) (by simpa using hK)
          unfold execOp
          simp [hop, Instr.loadAt, Instr.sureAddr, hρ, h1]
    · cases hk
  · split at hq <;> simp at hq
  · rename_i id' ver i j heq
    simp only [Option.some.injEq, Req.upd.injEq] at hq
    obtain ⟨rfl, rfl, rfl, rfl⟩ := hq
    simp only [List.cons.injEq, and_true] at heq
    exact wp_load_arr hop hH hE ht heq hid hk (by simpa using hK)
  · cases hq

theorem setRow_stab {b : Nat} {arr : Array Value} (hs : ∀ o, ¬ St b o) : Stab w (w.setRow b arr) St := fun c o hc => by
  have hne : c ≠ b := fun h => hs o (h ▸ hc)
  have hh := setRow_other w b c arr hne
  exact ⟨World.cell?_of_block (w := w) (a := ⟨c, o, none⟩) hh, fun es cl he => hh.trans he⟩
theorem wp_store_arr {an : Ann} {o : Oper} {t : TypeId} {x y : Operand} {id ver i j : Nat} {cs' : List AV} {o0 o1 : AO} {v : AV} {next : Act → World → Prop} {Q : Exit → Act → World → Prop}
    (hop : o.op = .store t x y) (hH : HI G w St O bs K) (hE : EI G w St O E a.tmps) (ht : ∀ t, o.dst = some t → t < a.tmps.size) (heq : inOf an o.dst (.store t x y) E x = .aptr id ver i j)
    (hcs' : fitCells P t (inOf an o.dst (.store t x y) E y) = some cs') (hid : K[id]? = some o0) (hk : storeArr ver i j cs' o0 = some (v, o1)) (hput : okPut bs id cs' = true)
    (hK : Goes G w St O bs (K.set id o1) (putD (gives an o.dst o.op E) o.dst (tidy o.op v)) a o.dst next) : o.wp P a w next Q := by
  have hx := inOf_VR hE an o.dst (.store t x y) x
  rw [heq] at hx
  have hy := inOf_VR hE an o.dst (.store t x y) y
  obtain ⟨hsz, hcells⟩ := fit_cells hcs' hy
  obtain ⟨hz, hcs, hlen⟩ := fit_pos hcs'
  have hobj := hH.obj id o0 hid
  unfold storeArr at hk
  split at hk
  · rename_i ver' es
    split at hk
    · rename_i hv
      subst hv
      split at hk
      · rename_i e he
        split at hk
        · rename_i hjl
          simp only [Option.some.injEq, Prod.mk.injEq] at hk
          obtain ⟨rfl, rfl⟩ := hk
          obtain ⟨b, cap, sz, g1, g2, g3, g4, g5, g6, g7⟩ := hobj.row
          have hρ := hx.inv_aptr g1 rfl
          have hi := (List.getElem?_eq_some_iff.1 he).1
          cases b with
          | none => have := g6 rfl; omega
          | some b =>
            obtain ⟨vals, et, q1, q2, q3, q4, q5⟩ := g7 b rfl
            have hel : e.length = sz := g4 e (List.mem_of_getElem? he)
            have hoff : i * sz + j + cs'.length ≤ es.flatten.length := by
              have : (i + 1) * sz ≤ es.length * sz := Nat.mul_le_mul_right _ hi
              rw [Nat.succ_mul] at this
              rw [flat_len g4]
              omega
            have harr : ∀ v ∈ (a.eval y).cells.toList, v.oneCell' = true := fun v hv => hcells.2.1 v (by simpa using hv)
            have hcl : (a.eval y).cells.toList.length = cs'.length := by rw [Array.length_toList]; exact hcells.1
            have hst := run_storeCells_at P b (i * sz + j) et (a.eval y).cells.toList 0 vals w q2 (by rw [hcl]; have := q5.1; omega) harr
            simp only [Nat.add_zero] at hst
            generalize hA : (vals.toList.take (i * sz + j) ++ (a.eval y).cells.toList ++ vals.toList.drop (i * sz + j + (a.eval y).cells.toList.length)).toArray = arr at hst
            obtain ⟨hpre, hasz⟩ := q5.splice hcells hoff (r := arr) (by rw [← hA]; rfl)
            have hrun : (execOp a.eval o).run P w = .ok .skip (w.setRow b arr) := by
              have : (storeVar t ⟨b, i * sz + j, none⟩ (a.eval y)).run P w = .ok () (w.setRow b arr) := by
                unfold storeVar
                simp only [Sem.run_bind, run_sizeOf (w := w) hz, Result.andThen_ok, Sem.run_ite]
                rw [if_neg (by simpa using hsz)]
                exact hst
              unfold execOp
              simp only [arrPtr, Option.map_some] at hρ
              simp [hop, Instr.storeAt, Instr.sureAddr, hρ, this]
            have hstab : Stab w (w.setRow b arr) St := setRow_stab q4
            have htd : tidy o.op .poison = .poison := by simp [tidy, flagOp, hop, AV.strip]
            rw [htd] at hK
            unfold Oper.wp
            rw [hrun, Oper.upon_skip]
            refine hK undef (w.setRow b arr) G St O ?_ ?_ ?_ (GLe.refl G)
            · refine hH.turn id _ (GLe.refl G) hH.gst hstab (fun _ _ h => h) (fun b1 id1 hne hb1 => ⟨rfl, setRow_other w b b1 arr fun h => ?_, fun _ h => h⟩) ?_ (fun c h => by rw [setRow_size]; exact hH.low c h) (fun c o h => by rw [setRow_size]; exact hH.stl c o h) ?_
              · subst h
                rcases hb1 with h1 | ⟨j, h1⟩
                · rw [q1] at h1; injection h1 with h1; exact hne h1.symm
                · rw [q1] at h1; cases h1
              · refine OR.of_row g1 g2 (by simpa using g3) (fun e' he' => ?_) (fun h => g5 (by simpa using h)) g6 fun b' hb' => ?_
                · rcases List.mem_or_eq_of_mem_set he' with h | h
                  · exact g4 e' h
                  · rw [h]; simp only [splice, List.length_append, List.length_take, List.length_drop]; omega
                · injection hb' with hb'
                  subst hb'
                  refine ⟨arr, et, q1, setRow_heap w b vals arr et (0, 0) q2, by rw [hasz, q3], q4, ?_⟩
                  rw [flat_splice g4 he hjl]
                  exact hpre.mono (GLe.refl G) hstab (fun _ _ h => h)
              · intro b1 hb1 hlt1
                have h1 := hH.bas b1 hb1 id _ hlt1 hid
                have h2 := okPut_spec hput b1 hb1 hlt1
                simp only [cloO] at h1 ⊢
                exact cloLL_set h1 (cloL_splice j (cloLL_get h1 he) h2)
            · refine EI.put_dst ?_ (.poison _) (fun es t _ h => by cases h) ht
              have hgE : EI G w St O (gives an o.dst o.op E) a.tmps := by
                refine ⟨hE.gives, fun u es hu => ?_⟩
                refine hE.own u es ?_
                unfold gives at hu
                split at hu
                · exact hu
                · split at hu
                  · rw [Env.get_set] at hu
                    split at hu
                    · simp at hu
                    · exact hu
                  · exact hu
              exact hgE.keep (GLe.refl G) hstab (fun _ _ h => h) fun b1 hb1 => ⟨rfl, setRow_other w b b1 arr (fun h => by subst h; rw [q1] at hb1; exact hb1), fun _ h => h⟩
            · exact ⟨rfl, rfl, rfl, by rw [setRow_size]; exact Nat.le_refl _, fun c hc h0 => setRow_other w b c arr (fun h => by subst h; rw [q1] at h0; cases h0), hstab, fun _ _ h => h, fun _ _ h => .inl h, fun c hc => .inl hc⟩
        · cases hk
      · cases hk
    · cases hk
  · cases hk
theorem wp_store {an : Ann} {nid : Nat} {o : Oper} {t : TypeId} {x y : Operand} {id : Nat} {wr : Bool} {news : List AV} {k : AO → Option (AV × AO)} {o0 o1 : AO} {v : AV} {next : Act → World → Prop} {Q : Exit → Act → World → Prop}
    (hop : o.op = .store t x y) (hH : HI G w St O bs K) (hE : EI G w St O E a.tmps) (ht : ∀ t, o.dst = some t → t < a.tmps.size)
    (hq : req P an nid o.dst o.op (o.op.operands.toList.map (inOf an o.dst o.op E)) = some (.upd id wr news k)) (hid : K[id]? = some o0) (hk : k o0 = some (v, o1)) (hput : okPut bs id news = true)
    (hK : Goes G w St O bs (if wr then K.set id o1 else K) (putD (gives an o.dst o.op E) o.dst (tidy o.op v)) a o.dst next) : o.wp P a w next Q := by
  rw [hop] at hq
  simp only [req, Op.operands, List.map_cons, List.map_nil] at hq
  split at hq
  · rename_i id' off z heq
    split at hq
    · rename_i cs' hcs'
      simp only [Option.some.injEq, Req.upd.injEq] at hq
      obtain ⟨rfl, rfl, rfl, rfl⟩ := hq
      simp only [List.cons.injEq, and_true] at heq
      obtain ⟨heq, rfl⟩ := heq
      have hx := inOf_VR hE an o.dst (.store t x y) x
      rw [heq] at hx
      have hy := inOf_VR hE an o.dst (.store t x y) y
      obtain ⟨b, hGb, hρ⟩ := hx.inv_ptr
      obtain ⟨hsz, hcells⟩ := fit_cells hcs' hy
      obtain ⟨hz, hcs, hlen⟩ := fit_pos hcs'
      have hobj := hH.obj id' o0 hid
      unfold storeBox at hk
      split at hk
      · rename_i cs
        obtain ⟨b', vals, e, g1, g2, g3, g4, g5, g6⟩ := hobj
        rw [hGb] at g1
        injection g1 with g1
        injection g1 with g1
        subst g1
        split at hk
        · rename_i hle
          simp only [Option.some.injEq, Prod.mk.injEq] at hk
          obtain ⟨rfl, rfl⟩ := hk
          have hnl : (a.eval y).cells.size = cs'.length := hcells.1
          have harr : ∀ v ∈ (a.eval y).cells.toList, v.oneCell' = true := fun v hv => hcells.2.1 v (by simpa using hv)
          have hcl : (a.eval y).cells.toList.length = cs'.length := by rw [Array.length_toList]; exact hnl
          have hvl : vals.toList.length = cs.length := by rw [Array.length_toList]; exact g4
          have hst := run_storeCells_at P b off e (a.eval y).cells.toList 0 vals w g3 (by rw [hcl, g4]; omega) harr
          simp only [Nat.add_zero] at hst
          generalize hA : (vals.toList.take off ++ (a.eval y).cells.toList ++ vals.toList.drop (off + (a.eval y).cells.toList.length)).toArray = arr at hst
          have hrun : (execOp a.eval o).run P w = .ok .skip (w.setRow b arr) := by
            have : (storeVar t ⟨b, off, none⟩ (a.eval y)).run P w = .ok () (w.setRow b arr) := by
              unfold storeVar
              simp only [Sem.run_bind, run_sizeOf (w := w) hz, Result.andThen_ok, Sem.run_ite]
              rw [if_neg (by simpa using hsz)]
              exact hst
            unfold execOp
            simp [hop, Instr.storeAt, Instr.sureAddr, hρ, this]
          have harrC : Cells G w St (splice cs off cs') arr := Cells.splice (off := off) ⟨g4, fun v hv => by
              obtain ⟨i, hi, he⟩ := Array.mem_iff_getElem.1 hv
              exact (g6 i (cs[i]'(by rw [← g4]; exact hi)) v (List.getElem?_eq_getElem _) (by rw [← he]; simp [hi])).2.1, fun i x u h1 h2 => (g6 i x u h1 h2).1⟩ hcells hle (by rw [← hA]; rfl)
          have hsize : arr.size = vals.size := by rw [harrC.1, g4]; simp [splice]; omega
          have hstab : Stab w (w.setRow b arr) St := setRow_stab g5
          unfold Oper.wp
          rw [hrun, Oper.upon_skip]
          have htd : tidy o.op .poison = .poison := by simp [tidy, flagOp, hop, AV.strip]
          rw [htd] at hK
          simp only [if_true] at hK
          -- who hands what
          have hold : ∀ (p q : Ow), p ≠ .no → (∀ id2 j, p ≠ .cell id2 j) → (∀ id2, p ≠ .obj id2) → (q = p ∨ q = .cell id' off) →
              (∀ es u, (splice cs off cs')[off]? = some (.slc true es) → arr[off]? = some u → Spare (w.setRow b arr) St (retag O p q) (.cell id' off) es u) →
              (∀ j es, off < j → j < off + cs'.length → (splice cs off cs')[j]? ≠ some (.slc true es)) →
              HI G (w.setRow b arr) St (retag O p q) bs (K.set id' (.box (splice cs off cs'))) := by
            intro p q hp0 hp1 hp2 hq hnew hrest
            have hret : ∀ b1, (O b1 ≠ p) → retag O p q b1 = O b1 := fun b1 h => by unfold retag; rw [if_neg h]
            refine hH.turn id' _ (GLe.refl G) hH.gst hstab (fun _ _ h => h) (fun b1 id1 hne hb1 => ⟨?_, ?_, fun _ h => h⟩) ?_ ?_ (fun c o h => by rw [setRow_size]; exact hH.stl c o h) ?_
            · refine hret b1 fun h => ?_
              rcases hb1 with h1 | ⟨j, h1⟩
              · exact hp2 id1 (h ▸ h1 ▸ rfl)
              · exact hp1 id1 j (h ▸ h1 ▸ rfl)
            · refine setRow_other w b b1 arr fun h => ?_
              subst h
              rcases hb1 with h1 | ⟨j, h1⟩
              · rw [g2] at h1; injection h1 with h1; exact hne h1.symm
              · rw [g2] at h1; cases h1
            · refine ⟨b, arr, e, hGb, (hret b fun h => hp2 id' (by rw [← h, g2])).trans g2, setRow_heap w b vals arr e (0, 0) g3, harrC.1, g5, fun j c u hc hu => ⟨(harrC.2.2 j c u hc hu).mono (GLe.refl G) hstab (fun _ _ h => h), harrC.2.1 u (Array.mem_of_getElem? hu), fun es he => ?_⟩⟩
              subst he
              by_cases hj : j = off
              · subst hj; exact hnew es u hc hu
              · by_cases hj2 : off < j ∧ j < off + cs'.length
                · exact absurd hc (hrest j es hj2.1 hj2.2)
                · have hc' := hc
                  rw [splice_get _ _ _ hle] at hc'
                  have hu' : vals[j]? = some u := by
                    rw [← Array.getElem?_toList, ← hA] at hu
                    have := splice_get vals.toList off (a.eval y).cells.toList (by show off + (a.eval y).cells.toList.length ≤ vals.toList.length; omega) j
                    unfold splice at this
                    simp only [List.getElem?_toArray, Array.getElem?_toList] at hu
                    rw [this, hcl] at hu
                    by_cases h1 : j < off
                    · rw [if_pos h1] at hu; simpa using hu
                    · rw [if_neg h1, if_neg (by omega)] at hu; simpa using hu
                  have hc2 : cs[j]? = some (.slc true es) := by
                    by_cases h1 : j < off
                    · rw [if_pos h1] at hc'; exact hc'
                    · rw [if_neg h1, if_neg (by omega)] at hc'; exact hc'
                  refine ((g6 j _ u hc2 hu').2.2 es rfl).keep fun b1 hb1 => ⟨(hret b1 fun h => hp1 id' j (by rw [← h, hb1])).trans hb1, ?_, fun _ h => h⟩
                  refine setRow_other w b b1 arr fun h => ?_
                  subst h; rw [g2] at hb1; cases hb1
            · intro b1 hb1
              rw [setRow_size]
              apply hH.low
              intro h0
              apply hb1
              rw [hret b1 (by rw [h0]; exact fun h => hp0 h.symm)]; exact h0
            · intro b1 hb1 hlt1
              have := hH.bas b1 hb1 id' _ hlt1 hid
              simp only [cloO] at this ⊢
              exact cloL_splice off this (okPut_spec hput b1 hb1 hlt1)
          have hstep : ∀ (p q : Ow), p ≠ .no → Step O w St (retag O p q) (w.setRow b arr) St := fun p q hp =>
            ⟨rfl, rfl, rfl, by rw [setRow_size]; exact Nat.le_refl _, fun c hc h0 => setRow_other w b c arr (fun h => by subst h; rw [g2] at h0; cases h0), hstab, fun _ _ h => h, fun _ _ h => .inl h, fun c hc => .inl fun h0 => hc (by unfold retag; rw [if_neg (by rw [h0]; exact fun h => hp h.symm)]; exact h0)⟩
          have hoff : ∀ (c : AV), (splice cs off cs')[off]? = some c → cs'[0]? = some c := fun c hc => by
            rw [splice_get _ _ _ hle, if_neg (Nat.lt_irrefl _), if_pos (by omega)] at hc
            simpa using hc
          have hu0 : ∀ u, arr[off]? = some u → (a.eval y).cells[0]? = some u := fun u hu => by
            rw [← Array.getElem?_toList, ← hA] at hu
            have := splice_get vals.toList off (a.eval y).cells.toList (by show off + (a.eval y).cells.toList.length ≤ vals.toList.length; omega) off
            unfold splice at this
            simp only [List.getElem?_toArray] at hu
            rw [this, if_neg (Nat.lt_irrefl _), if_pos (by rw [hcl]; omega)] at hu
            simpa using hu
          have hrest0 : ∀ j es, off < j → j < off + cs'.length → (splice cs off cs')[j]? ≠ some (.slc true es) := fun j es h1 h2 hc => by
            rw [splice_get _ _ _ hle, if_neg (by omega), if_pos h2, hcs] at hc
            obtain ⟨_, h3⟩ := cells_flag hc
            omega
          have hyfl : ∀ es, cs'[0]? = some (.slc true es) → inOf an o.dst (.store t x y) E y = .slc true es := fun es h => by rw [hcs] at h; exact (cells_flag h).1
          have hcellv : ∀ es u, inOf an o.dst (.store t x y) E y = .slc true es → (a.eval y).cells[0]? = some u → u = a.eval y := fun es u h1 h2 => by
            rw [h1] at hy
            cases hv : a.eval y with
            | slice q1 q2 q3 => rw [hv] at h2; simp [Value.cells] at h2; exact h2.symm
            | _ => rw [hv] at hy; cases hy
          by_cases hfl : ∃ tt es, y = .tmp tt ∧ hands an o.dst (.store t x y) tt = true ∧ E.get tt = .slc true es
          · obtain ⟨tt, es, rfl, hh, he⟩ := hfl
            have hg : gives an o.dst o.op E = E.set tt (.slc false es) := by
              have hxh : handT an o.dst (.store t x (.tmp tt)) x = none ∨ handT an o.dst (.store t x (.tmp tt)) x = some tt := by
                cases x with
                | tmp s =>
                  simp only [handT]
                  split
                  · rename_i hs
                    right
                    simp only [hands, Bool.and_eq_true, beq_iff_eq] at hs
                    rw [hs.1]
                  · left; rfl
                | _ => left; rfl
              unfold gives
              rw [hop]
              simp only [Op.operands, List.filterMap_cons, List.filterMap_nil]
              have hyh : handT an o.dst (.store t x (.tmp tt)) (.tmp tt) = some tt := by simp [handT, hh]
              rcases hxh with h | h <;> simp [h, hyh, he]
            rw [hg] at hK
            have hsp := hE.own tt es he
            have hEv : a.eval (.tmp tt) = a.tmps.getD tt undef := rfl
            refine hK undef (w.setRow b arr) G St (retag O (.tmp tt) (.cell id' off)) (hold (.tmp tt) (.cell id' off) (by simp) (by simp) (by simp) (.inr rfl) (fun es' u h1 h2 => ?_) hrest0) ?_ (hstep (.tmp tt) (.cell id' off) (by simp)) (GLe.refl G)
            · have h3 := hyfl es' (hoff _ h1)
              simp only [inOf, hh, if_true] at h3
              rw [he] at h3
              injection h3 with _ h3
              subst h3
              have h4 := hcellv es u (by simp only [inOf, hh, if_true]; exact he) (hu0 u h2)
              rw [h4, hEv]
              refine hsp.keep fun b1 hb1 => ⟨by unfold retag; rw [if_pos hb1], setRow_other w b b1 arr (fun h => by subst h; rw [g2] at hb1; cases hb1), fun _ h => h⟩
            · refine EI.put_dst ?_ (.poison _) (fun es t _ h => by cases h) ht
              have h1 := hE.give tt (.cell id' off) he
              refine h1.keep (GLe.refl G) hstab (fun _ _ h => h) fun b1 hb1 => ⟨rfl, setRow_other w b b1 arr (fun h => ?_), fun _ h => h⟩
              subst h
              unfold retag at hb1
              rw [if_neg (by rw [g2]; simp), g2] at hb1
              exact hb1
          · have hg : gives an o.dst o.op E = E ∨ True := .inr trivial
            have hgE : EI G w St O (gives an o.dst o.op E) a.tmps := by
              refine ⟨hE.gives, fun u es hu => ?_⟩
              refine hE.own u es ?_
              unfold gives at hu
              split at hu
              · exact hu
              · rename_i tt r htt
                split at hu
                · rename_i es2 hes2
                  rw [Env.get_set] at hu
                  split at hu
                  · simp at hu
                  · exact hu
                · exact hu
            refine hK undef (w.setRow b arr) G St (retag O (.tmp a.tmps.size) (.tmp a.tmps.size)) (hold (.tmp a.tmps.size) (.tmp a.tmps.size) (by simp) (by simp) (by simp) (.inl rfl) (fun es' u h1 h2 => ?_) hrest0) ?_ (hstep _ _ (by simp)) (GLe.refl G)
            · have h3 := hyfl es' (hoff _ h1)
              rcases inOf_flag (a := a) h3 with ⟨tt, h5, h6, h7⟩ | ⟨h5, h6⟩
              · exact absurd ⟨tt, es', h5, h6, h7⟩ hfl
              · have h4 := hcellv es' u h3 (hu0 u h2)
                rw [h4, h6]; exact ⟨none, 0, 0, rfl, .inl rfl⟩
            · have hsame : retag O (.tmp a.tmps.size) (.tmp a.tmps.size) = O := by funext b1; unfold retag; split <;> simp [*]
              rw [hsame]
              refine EI.put_dst ?_ (.poison _) (fun es t _ h => by cases h) ht
              exact hgE.keep (GLe.refl G) hstab (fun _ _ h => h) fun b1 hb1 => ⟨rfl, setRow_other w b b1 arr (fun h => by subst h; rw [g2] at hb1; exact hb1), fun _ h => h⟩
        · cases hk
      · cases hk
    · cases hq
  · rename_i id' ver i j z heq
    split at hq
    · rename_i cs' hcs'
      simp only [Option.some.injEq, Req.upd.injEq] at hq
      obtain ⟨rfl, rfl, rfl, rfl⟩ := hq
      simp only [List.cons.injEq, and_true] at heq
      obtain ⟨heq, rfl⟩ := heq
      exact wp_store_arr hop hH hE ht heq hcs' hid hk hput (by simpa using hK)
    · cases hq
  · cases hq
end Go.VM
