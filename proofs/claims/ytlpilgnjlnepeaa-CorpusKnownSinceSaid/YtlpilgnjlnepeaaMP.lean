/-
  The abstract machine, part P.
-/
import Derived.Test.YtlpilgnjlnepeaaMO
set_option linter.all false
namespace Go.VM
variable {P : Program} {G : GS} {w : World} {St : Sts} {O : Nat → Ow} {bs : List Nat} {K K' : List AO} {E E' : Env} {a : Act} {an : Ann} {C : CallF} {ops : Array Oper} {b : Nat}
open Classical

abbrev NOp := Oper × Nat × Nat
noncomputable def stepD (P : Program) (an : Ann) (C : CallF) (bs : List Nat) (ops : Array Oper) (b : Nat) (x : NOp) (E : Env) (K : List AO) : Option (Env × List AO × Foot) :=
  match wants ops E x.1 with
  | some true => evOpD P an C bs b x.2.2 x.1 E K
  | some false => some (putD E x.1.dst (.tup []), K, [])
  | none => none
theorem evOpsD_cons {x : NOp} {r : List NOp} : evOpsD P an C bs ops b (x :: r) E K =
    match stepD P an C bs ops b x E K with
    | some (E1, K1, ft) => (match evOpsD P an C bs ops b r E1 K1 with | some (e2, K2, fs) => some (e2, K2, (x.2.1, ft) :: fs) | none => none)
    | none => none := by
  obtain ⟨o, i, rk⟩ := x
  simp only [evOpsD, stepD]
  cases wants ops E o with
  | none => rfl
  | some c => cases c <;> rfl
def eqE (E E' : Env) : Prop := ∀ t, E.get t = E'.get t
def eff (d : Option Tmp) (v : AV) (h : Option Tmp) (E : Env) (t : Tmp) : AV := if d = some t then v else if h = some t then (E.get t).strip else E.get t
theorem putD_get (E : Env) (d : Option Tmp) (v : AV) (t : Tmp) : (putD E d v).get t = if d = some t then v else E.get t := by
  cases d with
  | none => simp [putD]
  | some u =>
    simp only [putD, Env.get_set, Option.some.injEq]
def hdT (an : Ann) (o : Oper) : Option Tmp := (o.op.operands.toList.filterMap (handT an o.dst o.op)).head?
theorem gives_get (E : Env) (o : Oper) (t : Tmp) : (gives an o.dst o.op E).get t = if hdT an o = some t then (E.get t).strip else E.get t := by
  unfold gives hdT
  cases hl : o.op.operands.toList.filterMap (handT an o.dst o.op) with
  | nil => simp
  | cons u r =>
    simp only [List.head?_cons, Option.some.injEq]
    by_cases hu : u = t
    · subst hu
      rw [if_pos rfl]
      split
      · rename_i es he
        rw [Env.get_set, if_pos rfl, he]; rfl
      · rename_i hn
        cases hg : E.get u with
        | slc c es => cases c with
          | true => exact absurd hg (hn es)
          | false => rfl
        | _ => rfl
    · rw [if_neg hu]
      split
      · rw [Env.get_set, if_neg hu]
      · rfl
theorem eff_get (E : Env) (o : Oper) (v : AV) (t : Tmp) : (putD (gives an o.dst o.op E) o.dst v).get t = eff o.dst v (hdT an o) E t := by
  rw [putD_get, gives_get]; rfl
def agrE (ts : List Tmp) (E E' : Env) : Prop := ∀ t ∈ ts, E.get t = E'.get t
def agrK (b : Nat) (f : Foot) (K K' : List AO) : Prop := (∀ i wr, (some i, wr) ∈ f → K'[i]? = K[i]?) ∧ (∀ wr, (none, wr) ∈ f → K'.take b = K.take b)
theorem set_agree {K K' : List AO} {s : Nat} (o : AO) (h : K'[s]? = K[s]?) : (K'.set s o)[s]? = (K.set s o)[s]? := by
  rw [List.getElem?_set, List.getElem?_set, if_pos rfl, if_pos rfl]
  have : s < K'.length ↔ s < K.length := by
    have h1 : (K'[s]?).isSome = (K[s]?).isSome := by rw [h]
    constructor
    · intro h2
      rw [List.getElem?_eq_getElem h2] at h1
      rcases Nat.lt_or_ge s K.length with h3 | h3
      · exact h3
      · rw [List.getElem?_eq_none h3] at h1; cases h1
    · intro h2
      rw [List.getElem?_eq_getElem h2] at h1
      rcases Nat.lt_or_ge s K'.length with h3 | h3
      · exact h3
      · rw [List.getElem?_eq_none h3] at h1; cases h1
  by_cases h1 : s < K.length
  · rw [if_pos h1, if_pos (this.2 h1)]
  · rw [if_neg h1, if_neg (fun h2 => h1 (this.1 h2))]
theorem meetD_loc {rk : Nat} {r : Req} {v : AV} {K1 : List AO} {f : Foot} (h : meetD C bs b rk K r = some (v, K1, f)) (hk : agrK b f K K') :
    ∃ K1', meetD C bs b rk K' r = some (v, K1', f) ∧ ∀ i, K1'[i]? = if (some i, true) ∈ f then K1[i]? else K'[i]? := by
  cases r with
  | val v =>
    simp only [meetD, Option.some.injEq, Prod.mk.injEq] at h ⊢
    obtain ⟨rfl, rfl, rfl⟩ := h
    exact ⟨K', ⟨rfl, rfl, rfl⟩, fun i => by simp⟩
  | new o v =>
    simp only [meetD, Option.some.injEq, Prod.mk.injEq] at h ⊢
    obtain ⟨rfl, rfl, rfl⟩ := h
    refine ⟨K'.set (b + rk) o, ⟨rfl, rfl, rfl⟩, fun i => ?_⟩
    by_cases hi : i = b + rk
    · subst hi
      rw [if_pos (by simp)]
      exact set_agree o (hk.1 _ true (by simp))
    · rw [if_neg (by simp [hi]), List.getElem?_set_ne (fun h => hi h.symm)]
  | new2 o o' v =>
    simp only [meetD, Option.some.injEq, Prod.mk.injEq] at h ⊢
    obtain ⟨rfl, rfl, rfl⟩ := h
    refine ⟨(K'.set (b + rk) o).set (b + rk + 1) o', ⟨rfl, rfl, rfl⟩, fun i => ?_⟩
    by_cases hi2 : i = b + rk + 1
    · subst hi2
      rw [if_pos (by simp)]
      refine set_agree o' ?_
      have hne : b + rk ≠ b + rk + 1 := by omega
      rw [List.getElem?_set_ne hne, List.getElem?_set_ne hne]
      exact hk.1 (b + rk + 1) true (by simp)
    · by_cases hi : i = b + rk
      · subst hi
        have hne : b + rk + 1 ≠ b + rk := by omega
        rw [if_pos (by simp), List.getElem?_set_ne hne, List.getElem?_set_ne hne]
        exact set_agree o (hk.1 (b + rk) true (by simp))
      · rw [if_neg (by simp [hi, hi2]), List.getElem?_set_ne (fun h => hi2 h.symm), List.getElem?_set_ne (fun h => hi h.symm)]
  | upd id wr news k =>
    simp only [meetD] at h ⊢
    split at h
    · rename_i o ho
      split at h
      · rename_i v' o' hko
        split at h
        · rename_i hw
          split at h
          · rename_i hp
            simp only [Option.some.injEq, Prod.mk.injEq] at h
            obtain ⟨rfl, rfl, rfl⟩ := h
            have ho' := (hk.1 id true (by simp)).trans ho
            refine ⟨K'.set id o', by simp only [ho', hko, hw, if_true, hp], fun i => ?_⟩
            by_cases hi : i = id
            · subst hi
              rw [if_pos (by simp)]
              exact set_agree o' (hk.1 _ true (by simp))
            · rw [if_neg (by simp [hi]), List.getElem?_set_ne (fun h => hi h.symm)]
          · cases h
        · rename_i hw
          simp only [Option.some.injEq, Prod.mk.injEq] at h
          obtain ⟨rfl, rfl, rfl⟩ := h
          have ho' := (hk.1 id false (by simp)).trans ho
          refine ⟨K', by simp only [ho', hko, hw]; simp, fun i => by simp⟩
      · cases h
    · cases h
  | call f args =>
    simp only [meetD] at h ⊢
    split at h
    · rename_i hc
      rw [if_pos hc]
      split at h
      · rename_i v' H' hC
        split at h
        · rename_i hH
          simp only [Option.some.injEq, Prod.mk.injEq] at h
          obtain ⟨rfl, rfl, rfl⟩ := h
          have ht := hk.2 false (by simp)
          refine ⟨K', by rw [ht, hC]; simp only [if_pos hH], fun i => by simp⟩
        · cases h
      · cases h
    · cases h
theorem inOf_agr {o : Oper} (h : agrE (looksAt ops o) E E') : o.op.operands.toList.map (inOf an o.dst o.op E) = o.op.operands.toList.map (inOf an o.dst o.op E') := by
  apply List.map_congr_left
  intro x hx
  cases x with
  | tmp t =>
    have ht : E.get t = E'.get t := h t (List.mem_append_left _ (List.mem_filterMap.2 ⟨.tmp t, hx, rfl⟩))
    simp only [inOf, ht]
  | _ => rfl
theorem wants_agr {o : Oper} (h : agrE (looksAt ops o) E E') : wants ops E o = wants ops E' o := by
  unfold wants
  cases hg : o.guard with
  | none => rfl
  | some g =>
    obtain ⟨j, want⟩ := g
    simp only
    cases hd : (ops[j]?).bind (·.dst) with
    | none => rfl
    | some t =>
      have ht : E.get t = E'.get t := h t (List.mem_append_right _ (by simp [hg, hd]))
      simp only [ht]
/-- One operation: what it does to the temporaries and to the heap, wherever what it looks at is the same. -/
theorem stepD_loc {x : NOp} {E1 : Env} {K1 : List AO} {f : Foot} (h : stepD P an C bs ops b x E K = some (E1, K1, f)) :
    ∃ v hd, (hd = none ∨ hd = hdT an x.1) ∧ (∀ t, E1.get t = eff x.1.dst v hd E t) ∧ ∀ E' K', agrE (looksAt ops x.1) E E' → agrK b f K K' →
      ∃ E1' K1', stepD P an C bs ops b x E' K' = some (E1', K1', f) ∧ (∀ t, E1'.get t = eff x.1.dst v hd E' t) ∧ ∀ i, K1'[i]? = if (some i, true) ∈ f then K1[i]? else K'[i]? := by
  unfold stepD at h
  split at h
  · rename_i hw
    unfold evOpD at h
    split at h
    · rename_i r hr
      split at h
      · rename_i v K2 ft hm
        simp only [Option.some.injEq, Prod.mk.injEq] at h
        obtain ⟨rfl, rfl, rfl⟩ := h
        refine ⟨tidy x.1.op v, hdT an x.1, .inr rfl, fun t => eff_get E x.1 _ t, fun E' K' hE hK => ?_⟩
        obtain ⟨K1', m1, m2⟩ := meetD_loc hm hK
        refine ⟨_, K1', ?_, fun t => eff_get E' x.1 _ t, m2⟩
        unfold stepD
        rw [← wants_agr hE, hw]
        simp only [evOpD]
        rw [← inOf_agr hE, hr]
        simp only [m1]
      · cases h
    · cases h
  · rename_i hw
    simp only [Option.some.injEq, Prod.mk.injEq] at h
    obtain ⟨rfl, rfl, rfl⟩ := h
    refine ⟨.tup [], none, .inl rfl, fun t => by rw [putD_get]; simp [eff], fun E' K' hE hK => ⟨putD E' x.1.dst (.tup []), K', ?_, fun t => by rw [putD_get]; simp [eff], fun i => by simp⟩⟩
    unfold stepD
    rw [← wants_agr hE, hw]
  · cases h
theorem eff_eqE {d : Option Tmp} {v : AV} {h : Option Tmp} (he : eqE E E') (t : Tmp) : eff d v h E t = eff d v h E' t := by
  unfold eff; rw [he t]
theorem agrK_refl (f : Foot) (K : List AO) : agrK b f K K := ⟨fun _ _ _ => rfl, fun _ _ => rfl⟩
theorem list_ext {α : Type} {l m : List α} (h : ∀ i : Nat, l[i]? = m[i]?) : l = m := List.ext_getElem? h
theorem stepD_eqE {x : NOp} {E1 : Env} {K1 : List AO} {f : Foot} (h : stepD P an C bs ops b x E K = some (E1, K1, f)) (he : eqE E E') : ∃ E1', stepD P an C bs ops b x E' K = some (E1', K1, f) ∧ eqE E1 E1' := by
  obtain ⟨v, hd, _, h1, h2⟩ := stepD_loc h
  obtain ⟨E0, K0, a1, a2, a3⟩ := h2 E K (fun _ _ => rfl) (agrK_refl f K)
  obtain ⟨E1', K1', b1, b2, b3⟩ := h2 E' K (fun t _ => he t) (agrK_refl f K)
  rw [h] at a1
  injection a1 with a1
  injection a1 with _ a1
  injection a1 with a1 _
  have : K1' = K1 := list_ext fun i => by rw [b3, ← a3, ← a1]
  subst this
  exact ⟨E1', b1, fun t => by rw [h1, b2, eff_eqE he]⟩
theorem evOpsD_eqE : ∀ (L : List NOp) {E E' : Env} {K : List AO} {E1 : Env} {K1 : List AO} {fs : List (Nat × Foot)}, evOpsD P an C bs ops b L E K = some (E1, K1, fs) → eqE E E' → ∃ E1', evOpsD P an C bs ops b L E' K = some (E1', K1, fs) ∧ eqE E1 E1'
  | [], E, E', K, E1, K1, fs, h, he => by
    simp only [evOpsD, Option.some.injEq, Prod.mk.injEq] at h
    obtain ⟨rfl, rfl, rfl⟩ := h
    exact ⟨E', rfl, he⟩
  | x :: L, E, E', K, E1, K1, fs, h, he => by
    rw [evOpsD_cons] at h
    split at h
    · rename_i Ex Kx fx hx
      split at h
      · rename_i e2 K2 fs2 h2
        simp only [Option.some.injEq, Prod.mk.injEq] at h
        obtain ⟨rfl, rfl, rfl⟩ := h
        obtain ⟨Ex', g1, g2⟩ := stepD_eqE hx he
        obtain ⟨E2', g3, g4⟩ := evOpsD_eqE L h2 g2
        refine ⟨E2', ?_, g4⟩
        rw [evOpsD_cons, g1]
        simp only [g3]
      · cases h
    · cases h
theorem freeOf_spec {x y : Oper} (h : freeOf an ops x y = true) : (∀ t ∈ writesTo an x, t ∉ looksAt ops y ∧ t ∉ writesTo an y) ∧ (∀ t ∈ writesTo an y, t ∉ looksAt ops x) := by
  unfold freeOf at h
  simp only [Bool.and_eq_true, List.all_eq_true, Bool.not_eq_true', List.contains_iff_mem, decide_eq_false_iff_not, Bool.eq_false_iff, ne_eq] at h
  exact ⟨fun t ht => ⟨(h.1 t ht).1, (h.1 t ht).2⟩, fun t ht => h.2 t ht⟩
theorem eff_out {o : Oper} {v : AV} {hd : Option Tmp} (hh : hd = none ∨ hd = hdT an o) {t : Tmp} (ht : t ∉ writesTo an o) : eff o.dst v hd E t = E.get t := by
  unfold eff
  rw [if_neg, if_neg]
  · intro h
    rcases hh with h1 | h1
    · rw [h1] at h; cases h
    · rw [h1] at h
      exact ht (List.mem_append_right _ (List.mem_of_mem_head? h))
  · intro h
    exact ht (List.mem_append_left _ (by simp [h]))
theorem apartF_spec {f g : Foot} (h : apartF b f g = true) : ∀ x ∈ f, ∀ y ∈ g, clash b x y = false := by
  intro x hx y hy
  unfold apartF at h
  have := List.all_eq_true.1 (List.all_eq_true.1 h x hx) y hy
  simpa using this
theorem stepD_comm {x y : NOp} {E1 E2 : Env} {K1 K2 : List AO} {fx fy : Foot} (hx : stepD P an C bs ops b x E K = some (E1, K1, fx)) (hy : stepD P an C bs ops b y E1 K1 = some (E2, K2, fy))
    (hf : freeOf an ops x.1 y.1 = true) (ha : apartF b fx fy = true) : ∃ E1' K1' E2', stepD P an C bs ops b y E K = some (E1', K1', fy) ∧ stepD P an C bs ops b x E1' K1' = some (E2', K2, fx) ∧ eqE E2 E2' := by
  obtain ⟨f1, f2⟩ := freeOf_spec hf
  have hcl := apartF_spec ha
  obtain ⟨vx, hdx, hhx, x1, x2⟩ := stepD_loc hx
  obtain ⟨vy, hdy, hhy, y1, y2⟩ := stepD_loc hy
  have kx : ∀ i, K1[i]? = if (some i, true) ∈ fx then K1[i]? else K[i]? := fun i => by
    obtain ⟨E0, K0, a1, a2, a3⟩ := x2 E K (fun _ _ => rfl) (agrK_refl fx K)
    rw [hx] at a1
    injection a1 with a1; injection a1 with _ a1; injection a1 with a1 _
    rw [a1]; have := a3 i; rwa [a1] at this
  have ky : ∀ i, K2[i]? = if (some i, true) ∈ fy then K2[i]? else K1[i]? := fun i => by
    obtain ⟨E0, K0, a1, a2, a3⟩ := y2 E1 K1 (fun _ _ => rfl) (agrK_refl fy K1)
    rw [hy] at a1
    injection a1 with a1; injection a1 with _ a1; injection a1 with a1 _
    have := a3 i; rwa [← a1] at this
  have takeEq : ∀ (L M : List AO), (∀ i : Nat, i < b → L[i]? = M[i]?) → L.take b = M.take b := fun L M h => list_ext fun i => by
    rw [List.getElem?_take, List.getElem?_take]
    split
    · exact h i (by assumption)
    · rfl
  -- y ahead of x
  have agx : agrK b fy K1 K := by
    refine ⟨fun i wr hi => ?_, fun wr hi => takeEq _ _ fun i hib => ?_⟩
    · rw [kx i, if_neg]
      intro hm
      have := hcl _ hm _ hi
      simp [clash] at this
    · rw [kx i, if_neg]
      intro hm
      have := hcl _ hm _ hi
      simp [clash] at this
      omega
  obtain ⟨E1', K1', s1, s2, s3⟩ := y2 E K (fun t ht => by rw [x1, eff_out hhx (fun h => (f1 t h).1 ht)]) agx
  have agy : agrK b fx K K1' := by
    refine ⟨fun i wr hi => ?_, fun wr hi => takeEq _ _ fun i hib => ?_⟩
    · rw [s3 i, if_neg]
      intro hm
      have := hcl _ hi _ hm
      simp [clash] at this
    · rw [s3 i, if_neg]
      intro hm
      have := hcl _ hi _ hm
      simp [clash] at this
      omega
  obtain ⟨E2', K2', r1, r2, r3⟩ := x2 E1' K1' (fun t ht => by rw [s2, eff_out hhy (fun h => f2 t h ht)]) agy
  have hK : K2' = K2 := list_ext fun i => by
    rw [r3 i, ky i]
    by_cases h1 : (some i, true) ∈ fx
    · rw [if_pos h1, if_neg]
      intro h2
      have := hcl _ h1 _ h2
      simp [clash] at this
    · rw [if_neg h1, s3 i]
      by_cases h2 : (some i, true) ∈ fy
      · rw [if_pos h2, if_pos h2]
      · rw [if_neg h2, if_neg h2, kx i, if_neg h1]
  subst hK
  refine ⟨E1', K1', E2', s1, r1, fun t => ?_⟩
  rw [y1, r2]
  by_cases hty : t ∈ writesTo an y.1
  · have htx : t ∉ writesTo an x.1 := fun h => (f1 t h).2 hty
    rw [eff_out hhx htx, s2]
    unfold eff
    rw [x1, eff_out hhx htx]
  · rw [eff_out hhy hty, x1]
    unfold eff
    rw [s2, eff_out hhy hty]
end Go.VM
