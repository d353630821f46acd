/-
  The abstract machine, part N.
-/
import Derived.Test.YtlpilgnjlnepeaaMW
set_option linter.all false
namespace Go.VM
variable {P : Program} {G : GS} {w : World} {St : Sts} {O : Nat → Ow} {bs : List Nat} {K K' : List AO} {E E' : Env} {a : Act}

def below (n : Nat) : Nat → Bool := fun i => decide (i < n)
theorem cloL_of {p : Nat → Bool} : ∀ {cs : List AV}, (∀ (i : Nat) (x : AV), cs[i]? = some x → clo p x = true) → cloL p cs = true
  | [], _ => by simp [cloL]
  | c :: cs, h => by
    simp only [cloL, Bool.and_eq_true]
    exact ⟨h 0 c rfl, cloL_of fun i x hx => h (i + 1) x (by simpa using hx)⟩
theorem cloLL_of {p : Nat → Bool} : ∀ {es : List (List AV)}, (∀ (i : Nat) (e : List AV), es[i]? = some e → cloL p e = true) → cloLL p es = true
  | [], _ => by simp [cloLL]
  | c :: cs, h => by
    simp only [cloLL, Bool.and_eq_true]
    exact ⟨h 0 c rfl, cloLL_of fun i x hx => h (i + 1) x (by simpa using hx)⟩
theorem arr_at {us : Array Value} {n i : Nat} (h : us.size = n) (hi : i < n) : ∃ u, us[i]? = some u := ⟨us[i]'(by omega), by simp [show i < us.size by omega]⟩
theorem ent_at {us : Array MapEntry} {n i : Nat} (h : us.size = n) (hi : i < n) : ∃ u, us[i]? = some u := ⟨us[i]'(by omega), by simp [show i < us.size by omega]⟩
theorem lt_of {α : Type} {l : List α} {i : Nat} {x : α} (h : l[i]? = some x) : i < l.length := (List.getElem?_eq_some_iff.1 h).1
/-- What stands to a value leads to known objects alone. -/
theorem VR_clo {n : Nat} {x : AV} {v : Value} (h : VR G w St x v) (hg : ∀ id, n ≤ id → G id = none) : VM.clo (below n) x = true := by
  have key : ∀ id g, G id = some g → below n id = true := fun id g hid => by
    simp only [below, decide_eq_true_eq]
    rcases Nat.lt_or_ge id n with h | h
    · exact h
    · rw [hg id h] at hid; cases hid
  induction h with
  | slc u es sz a cap us hc h0 hu ha hl hr ih => simp only [VM.clo]; exact cloLL_of fun i e he => cloL_of fun j x hx => ih i e j x he hx
  | ptr id off b h => exact key id _ h
  | iptr cs off b o us hl hr ih => simp only [VM.clo]; exact cloL_of fun j x hx => ih j x hx
  | arr id ver off n v1 b cap sz v h hv hc h1 => exact key id _ h
  | aptr id ver i j v1 b cap sz v h hv hc h1 => exact key id _ h
  | map id b h => exact key id _ h
  | vmap ks vs b es clock hb hs hk hv hrk hrv ihk ihv =>
    simp only [VM.clo, Bool.and_eq_true]
    exact ⟨cloL_of fun i x hx => by obtain ⟨e, he⟩ := ent_at hk (lt_of hx); exact ihk i e x he hx,
      cloL_of fun i x hx => by obtain ⟨e, he⟩ := ent_at (hk.trans hv.symm) (lt_of hx); exact ihv i e x he hx⟩
  | func f xs ys us vs hx hy hrx hry ihx ihy =>
    simp only [VM.clo, Bool.and_eq_true]
    exact ⟨cloL_of fun i x h => by obtain ⟨u, hu⟩ := arr_at hx (lt_of h); exact ihx i x u h hu, cloL_of fun i x h => by obtain ⟨u, hu⟩ := arr_at hy (lt_of h); exact ihy i x u h hu⟩
  | iface t x v h ih => simp only [VM.clo]; exact ih
  | agg cs vs hs h1 hr ih => simp only [VM.clo]; exact cloL_of fun i x h => by obtain ⟨u, hu⟩ := arr_at hs (lt_of h); exact ih i x u h hu
  | tup cs vs hs hr ih => simp only [VM.clo]; exact cloL_of fun i x h => by obtain ⟨u, hu⟩ := arr_at hs (lt_of h); exact ih i x u h hu
  | _ => rfl
theorem OR_clo {n id : Nat} {o : AO} (h : OR G w St O id o) (hg : ∀ id, n ≤ id → G id = none) : cloO (below n) o = true := by
  cases o with
  | dead => rfl
  | box cs =>
    obtain ⟨b, vals, e, hgb, hob, hh, hs, hns, hv⟩ := h
    simp only [cloO]
    exact cloL_of fun i x hx => by obtain ⟨u, hu⟩ := arr_at hs (lt_of hx); exact VR_clo (hv i x u hx hu).1 hg
  | map ks vs =>
    obtain ⟨b, es, clock, hgb, hob, hh, hns, hs, hl, hk, hv⟩ := h
    simp only [cloO, Bool.and_eq_true]
    exact ⟨cloL_of fun i x hx => by obtain ⟨u, hu⟩ := ent_at hs (lt_of hx); exact VR_clo (hk i u x hu hx) hg,
      cloL_of fun i x hx => by obtain ⟨u, hu⟩ := ent_at (hs.trans hl.symm) (lt_of hx); exact VR_clo (hv i u x hu hx) hg⟩
  | arr ver es =>
    obtain ⟨b, cap, sz, g1, g2, g3, g4, g5, g6, g7⟩ := h.row
    simp only [cloO]
    rw [← cloLL_flatten]
    refine cloL_of fun i x hx => ?_
    have hi := lt_of hx
    cases b with
    | none =>
      have : es = [] := List.length_eq_zero_iff.1 (by have := g6 rfl; omega)
      subst this
      simp at hx
    | some b =>
      obtain ⟨vals, e, q1, q2, q3, q4, q5⟩ := g7 b rfl
      have hlt : i < vals.size := Nat.lt_of_lt_of_le hi q5.1
      exact VR_clo (q5.2 i x vals[i] hx (by simp [hlt])).1 hg
theorem HI.top (h : HI G w St O bs K) (id : Nat) (o : AO) (ho : K[id]? = some o) : cloO (below K.length) o = true := OR_clo (h.obj id o ho) h.gst
theorem OR.cut {p : Nat → Bool} {id : Nat} {o : AO} (h : OR G w St O id o) (hp : p id = true) (hc : cloO p o = true) : OR (cutG G p) w St O id o := by
  have hG : ∀ g, G id = g → cutG G p id = g := fun g hg => by simp [cutG, hp, hg]
  cases o with
  | dead => exact hG _ h
  | box cs =>
    obtain ⟨b, vals, e, hgb, hob, hh, hs, hns, hv⟩ := h
    exact ⟨b, vals, e, hG _ hgb, hob, hh, hs, hns, fun j c v hcj hvj => ⟨(hv j c v hcj hvj).1.cut (cloL_get hc hcj), (hv j c v hcj hvj).2⟩⟩
  | map ks vs =>
    obtain ⟨b, es, clock, hgb, hob, hh, hns, hs, hl, hk, hv⟩ := h
    simp only [cloO, Bool.and_eq_true] at hc
    exact ⟨b, es, clock, hG _ hgb, hob, hh, hns, hs, hl, fun i e x h1 h2 => (hk i e x h1 h2).cut (cloL_get hc.1 h2), fun i e x h1 h2 => (hv i e x h1 h2).cut (cloL_get hc.2 h2)⟩
  | arr ver es =>
    obtain ⟨b, cap, sz, g1, g2, g3, g4, g5, g6, g7⟩ := h
    refine ⟨b, cap, sz, hG _ g1, g2, g3, g4, g5, g6, fun b' hb' => ?_⟩
    obtain ⟨vals, e, q1, q2, q3, q4, q5⟩ := g7 b' hb'
    refine ⟨vals, e, q1, q2, q3, q4, fun k c v hk hv => ⟨(q5 k c v hk hv).1.cut ?_, (q5 k c v hk hv).2⟩⟩
    simp only [cloO] at hc
    rw [← cloLL_flatten] at hc
    exact cloL_get hc hk
theorem take_get {K : List AO} {b id : Nat} {o : AO} (h : (K.take b)[id]? = some o) : id < b ∧ K[id]? = some o := by
  have hlt := lt_of h
  rw [List.length_take] at hlt
  have : id < b := by omega
  exact ⟨this, by rwa [List.getElem?_take_of_lt this] at h⟩
theorem HI.trunc {b : Nat} {O' : Nat → Ow} (h : HI G w St O bs K) (hb : b ≤ K.length) (hc : ∀ (id : Nat) (o : AO), id < b → K[id]? = some o → cloO (below b) o = true)
    (hO : ∀ q id, id < b → (O q = .obj id ∨ ∃ j, O q = .cell id j) → O' q = O q) (hO' : ∀ q, O' q ≠ .no → O q ≠ .no) : HI (cutG G (below b)) w St O' bs (K.take b) where
  obj := fun id o ho => by
    obtain ⟨h1, h2⟩ := take_get ho
    have h3 := (h.obj id o h2).keep (GLe.refl G) rfl (Stab.refl w St) (fun _ _ h => h) (O' := O') fun q hq => ⟨hO q id h1 hq, rfl, fun _ h => h⟩
    exact h3.cut (by simp [below, h1]) (hc id o h1 h2)
  gst := fun id hid => by
    rw [List.length_take, Nat.min_eq_left hb] at hid
    unfold cutG below
    rw [if_neg (by simp; omega)]
  low := fun q hq => h.low q (hO' q hq)
  stl := h.stl
  bas := fun b' hb' id o hlt ho => by
    obtain ⟨h1, h2⟩ := take_get ho
    exact h.bas b' hb' id o hlt h2

/-! ### calls on a heap that is cut off -/
def hid (b : Nat) : Ow → Bool
  | .no => false
  | .obj i => decide (b ≤ i)
  | .cell i _ => decide (b ≤ i)
  | _ => true
def hideB (b : Nat) (p : Ow) : Ow := if hid b p then .no else p
def mergeB (b : Nat) (O O' : Nat → Ow) (d : Ow) : Nat → Ow := fun q => if hid b (O q) then O q else (match O' q with | .res => d | .tmp _ => .no | x => x)
theorem hideB_out (b : Nat) (p : Ow) : ¬ (hideB b p).isOut := by
  unfold hideB
  split
  · exact fun h => h
  · rename_i h
    cases p <;> first | exact fun h => h | exact absurd rfl h
theorem hid_no {b : Nat} {p : Ow} (h : hid b p = true) : p ≠ .no := by intro e; subst e; cases h
theorem hideB_no {b : Nat} {p : Ow} (h : hideB b p ≠ .no) : p ≠ .no := by
  intro e; subst e; exact h rfl
def joinG (b : Nat) (G G' : GS) : GS := fun id => if id < b then G' id else G id
section
variable {G' : GS} {w' : World} {St' : Sts} {O' : Nat → Ow} {d : Ow} {b : Nat} {K2 : List AO}
theorem keptB (hH : HI G w St O bs K) (hs : Step (fun q => hideB b (O q)) w St O' w' St') {q : Nat} (h : hid b (O q) = true) : O' q = .no ∧ w'.heap[q]? = w.heap[q]? ∧ ∀ o, St' q o → St q o := by
  have hlt := hH.low q (hid_no h)
  have hh : hideB b (O q) = .no := by unfold hideB; rw [if_pos h]
  refine ⟨?_, hs.old q hlt hh, fun o ho => ?_⟩
  · by_cases hn : O' q = .no
    · exact hn
    · rcases hs.own q hn with h1 | h1
      · exact absurd hh h1
      · omega
  · rcases hs.new q o ho with h1 | h1 | h1
    · exact h1
    · exact absurd hh h1
    · omega
theorem mergeB_in {q : Nat} (h : ¬ hid b (O q) = true) : mergeB b O O' d q = (match O' q with | .res => d | .tmp _ => .no | x => x) := by
  unfold mergeB; rw [if_neg h]
theorem mergeB_out {q : Nat} (h : hid b (O q) = true) : mergeB b O O' d q = O q := by
  unfold mergeB; rw [if_pos h]
theorem mergeB_step (hs : Step (fun q => hideB b (O q)) w St O' w' St') : Step O w St (mergeB b O O' d) w' St' where
  os := hs.os
  tape := hs.tape
  output := hs.output
  size := hs.size
  old := fun q hq h0 => hs.old q hq (by show hideB b (O q) = .no; rw [h0]; rfl)
  stb := hs.stb
  mono := hs.mono
  new := fun q o h => by
    rcases hs.new q o h with h1 | h1 | h1
    · exact .inl h1
    · exact .inr (.inl (hideB_no h1))
    · exact .inr (.inr h1)
  own := fun q hq => by
    by_cases ho : hid b (O q) = true
    · exact .inl (hid_no ho)
    · rw [mergeB_in ho] at hq
      have : O' q ≠ .no := by intro e; rw [e] at hq; exact hq rfl
      rcases hs.own q this with h1 | h1
      · exact .inl (hideB_no h1)
      · exact .inr h1
theorem joinG_le (hG : GLe (cutG G (below b)) G') : GLe G (joinG b G G') := fun id g hg => by
  unfold joinG
  by_cases hlt : id < b
  · rw [if_pos hlt]
    exact hG id g (by simp [cutG, below, hlt, hg])
  · rw [if_neg hlt]; exact ⟨g, hg, g.le_refl⟩
theorem joinG_le' (hg : ∀ id, b ≤ id → G' id = none) : GLe G' (joinG b G G') := fun id g h => by
  unfold joinG
  by_cases hlt : id < b
  · rw [if_pos hlt]; exact ⟨g, h, g.le_refl⟩
  · rw [hg id (by omega)] at h; cases h
theorem HI.join (hH : HI G w St O bs K) (hb : b ≤ K.length) (hs : Step (fun q => hideB b (O q)) w St O' w' St') (hG : GLe (cutG G (below b)) G') (h' : HI G' w' St' O' bs K2) (hl : K2.length = b) :
    HI (joinG b G G') w' St' (mergeB b O O' d) bs (K2 ++ K.drop b) := by
  have hg' : ∀ id, b ≤ id → G' id = none := fun id h => h'.gst id (by omega)
  refine ⟨fun id o ho => ?_, fun id hid => ?_, fun q hq => ?_, h'.stl, fun b1 hb1 id o hlt ho => ?_⟩
  · rcases Nat.lt_or_ge id b with h1 | h1
    · rw [List.getElem?_append_left (by omega)] at ho
      refine (h'.obj id o ho).keep (joinG_le' hg') (by unfold joinG; rw [if_pos h1]) (Stab.refl w' St') (fun _ _ h => h) fun q hq => ⟨?_, rfl, fun _ h => h⟩
      by_cases hh : hid b (O q) = true
      · rw [(keptB hH hs hh).1] at hq; rcases hq with h | ⟨_, h⟩ <;> cases h
      · rw [mergeB_in hh]; rcases hq with h | ⟨_, h⟩ <;> rw [h]
    · rw [List.getElem?_append_right (by omega), hl, List.getElem?_drop, show b + (id - b) = id by omega] at ho
      refine (hH.obj id o ho).keep (joinG_le hG) (by unfold joinG; rw [if_neg (by omega)]) hs.stb hs.mono fun q hq => ?_
      have hh : hid b (O q) = true := by rcases hq with h | ⟨_, h⟩ <;> rw [h] <;> simp [hid, h1]
      obtain ⟨_, k2, k3⟩ := keptB hH hs hh
      exact ⟨mergeB_out hh, k2, k3⟩
  · rw [List.length_append, hl, List.length_drop] at hid
    unfold joinG
    rw [if_neg (by omega)]
    exact hH.gst id (by omega)
  · by_cases hh : hid b (O q) = true
    · exact Nat.lt_of_lt_of_le (hH.low q (hid_no hh)) hs.size
    · rw [mergeB_in hh] at hq
      exact h'.low q (by intro e; rw [e] at hq; exact hq rfl)
  · rcases Nat.lt_or_ge id b with h1 | h1
    · rw [List.getElem?_append_left (by omega)] at ho
      exact h'.bas b1 hb1 id o hlt ho
    · rw [List.getElem?_append_right (by omega), hl, List.getElem?_drop, show b + (id - b) = id by omega] at ho
      exact hH.bas b1 hb1 id o hlt ho
theorem envB {dst : Option Tmp} {v : AV} {cv : Value} (hH : HI G w St O bs K) (hE : EI G w St O E a.tmps) (hs : Step (fun q => hideB b (O q)) w St O' w' St') (hG : GLe (cutG G (below b)) G') (hg' : ∀ id, b ≤ id → G' id = none) (hv : VR G' w' St' v cv)
    (hsp : ∀ es, v = .slc true es → Spare w' St' O' .res es cv) (ht : ∀ t, dst = some t → t < a.tmps.size) : EI (joinG b G G') w' St' (mergeB b O O' (dtag dst)) (putD E dst v) (a.put dst cv).tmps := by
  refine hE.keepDst (joinG_le hG) hs.stb hs.mono (fun q hq hn => ?_) (hv.mono (joinG_le' hg') (Stab.refl w' St') (fun _ _ h => h)) (fun es he => (hsp es he).keep fun q hq => ⟨?_, rfl, fun _ h => h⟩) ht
  · have ho : hid b (O q) = true := by cases hp : O q <;> first | rfl | (rw [hp] at hq; exact hq.elim)
    obtain ⟨_, h2, h3⟩ := keptB hH hs ho
    exact ⟨mergeB_out ho, h2, h3⟩
  · by_cases ho : hid b (O q) = true
    · rw [(keptB hH hs ho).1] at hq; cases hq
    · rw [mergeB_in ho, hq]
end
theorem wp_callB {C : CallF} {an : Ann} {nid b : Nat} {o : Oper} {c : Call} {f : FuncId} {args : List AV} {v : AV} {K2 : List AO} {next : Act → World → Prop} {Q : Exit → Act → World → Prop}
    (hS : SimC P C) (hop : o.op = .call c) (hH : HI G w St O bs K) (hbl : ∀ b' ∈ bs, b' ≤ b) (hb : b ∈ bs) (hbK : b ≤ K.length) (hE : EI G w St O E a.tmps) (ht : ∀ t, o.dst = some t → t < a.tmps.size)
    (hq : req P an nid o.dst o.op (o.op.operands.toList.map (inOf an o.dst o.op E)) = some (.call f args)) (hcl : cloL (below b) args = true) (hC : C f args bs (K.take b) = some (v, K2))
    (hK : Goes G w St O bs (K2 ++ K.drop b) (putD (gives an o.dst o.op E) o.dst (tidy o.op v)) a o.dst next) : o.wp P a w next Q := by
  obtain ⟨vals, h1, h2, h3⟩ := call_vals (w := w) hop hE hq
  have hT : HI (cutG G (below b)) w St (fun q => hideB b (O q)) bs (K.take b) := hH.trunc hbK (fun id o hlt ho => hH.bas b hb id o hlt ho) (fun q id hlt hq => by
    have : hid b (O q) = false := by rcases hq with h | ⟨_, h⟩ <;> rw [h] <;> simp [hid, hlt]
    show hideB b (O q) = O q
    unfold hideB; rw [this]; rfl) (fun q hq => hideB_no hq)
  obtain ⟨s1, s2, s3⟩ := hS f args bs (K.take b) v K2 hC _ w St _ vals hT (fun b' hb' => by rw [List.length_take, Nat.min_eq_left hbK]; exact hbl b' hb') (fun q => hideB_out b _) ⟨h1.1, fun i x u hx hu => (h1.2 i x u hx hu).cut (cloL_get hcl hx)⟩
  have htd : tidy o.op v = v := by simp [tidy, flagOp, hop]
  rw [htd, hop, gives_call h2] at hK
  have hl : K2.length = b := by rw [s2, List.length_take, Nat.min_eq_left hbK]
  unfold Oper.wp
  rw [h3 s1, Oper.upon_enter]
  refine s3.mono fun e w' he => ?_
  cases e with
  | returned cv =>
    obtain ⟨G', St', O', q1, q2, q3, q4, q5⟩ := he
    exact hK cv w' _ St' _ (hH.join (d := dtag o.dst) hbK q4 q5 q1 hl) (envB hH hE q4 q5 (fun id h => q1.gst id (by omega)) q2 q3 ht) (mergeB_step q4) (joinG_le q5)
  | panicked _ => exact he.elim
  | outgrown => exact he.elim
end Go.VM
