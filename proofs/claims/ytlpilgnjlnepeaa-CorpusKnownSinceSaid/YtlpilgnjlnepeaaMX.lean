/-
  The abstract machine, part X.
-/
import Derived.Test.YtlpilgnjlnepeaaMQ
set_option linter.all false
namespace Go.VM
variable {P : Program} {G : GS} {w : World} {St : Sts} {O : Nat → Ow} {bs : List Nat} {K K' : List AO} {E E' : Env} {a : Act} {an : Ann} {C : CallF} {ops : Array Oper} {b : Nat}
open Classical

/-- One operation of such a region, as a step of the model. -/
theorem wp_stepD {x : NOp} {E1 : Env} {K1 : List AO} {f : Foot} {next : Act → World → Prop} {Q : Exit → Act → World → Prop} (hS : SimC P C) (hL : CLen C) (hx : ops[x.2.1]? = some x.1) (hod : ∀ t, x.1.dst = some t → t < a.tmps.size)
    (h : stepD P an C bs ops b x E K = some (E1, K1, f)) (hH : HI G w St O bs K) (hE : EI G w St O E a.tmps) (hbl : ∀ b' ∈ bs, b' ≤ b) (hb : b ∈ bs) (hbK : b ≤ K.length)
    (hsl : ∀ s, s < newsOf an x.1 → K[b + x.2.2 + s]? = some .dead) (hK : Goes G w St O bs K1 E1 a x.1.dst next) : wpOp P ops Q x.2.1 next a w := by
  unfold stepD at h
  unfold wpOp
  rw [hx]
  simp only
  split at h
  · rename_i hw
    rw [wants_wanted hE hw, if_pos rfl]
    left
    unfold evOpD at h
    split at h
    · rename_i r hr
      split at h
      · rename_i v K2 ft hm
        simp only [Option.some.injEq, Prod.mk.injEq] at h
        obtain ⟨rfl, rfl, rfl⟩ := h
        have hG : ∀ s, s < newsOf an x.1 → G (b + x.2.2 + s) = none ∧ b + x.2.2 + s < K.length := fun s hs => ⟨hH.obj _ _ (hsl s hs), lt_of (hsl s hs)⟩
        have hn0 : 0 < newsOf an x.1 → G (b + x.2.2) = none := fun h => (hG 0 h).1
        have hn1 : 1 < newsOf an x.1 → G (b + x.2.2 + 1) = none := fun h => (hG 1 h).1
        have hbn : ∀ b' ∈ bs, b' ≤ b + x.2.2 := fun b' hb' => Nat.le_trans (hbl b' hb') (Nat.le_add_right _ _)
        have hbk : ∀ b' ∈ bs, b' ≤ K.length := fun b' hb' => Nat.le_trans (hbl b' hb') hbK
        cases r with
        | val v =>
          simp only [meetD, Option.some.injEq, Prod.mk.injEq] at hm
          obtain ⟨rfl, rfl, rfl⟩ := hm
          exact wp_met hS hH hbk hE hod hbn hn0 hn1 hr (.val _) hK
        | new ob v =>
          simp only [meetD, Option.some.injEq, Prod.mk.injEq] at hm
          obtain ⟨rfl, rfl, rfl⟩ := hm
          exact wp_met hS hH hbk hE hod hbn hn0 hn1 hr (.new _ _ _ (.fill (hG 0 (req_new hr)).2)) hK
        | new2 ob ob' v =>
          simp only [meetD, Option.some.injEq, Prod.mk.injEq] at hm
          obtain ⟨rfl, rfl, rfl⟩ := hm
          have h2 := req_new2 hr
          exact wp_met hS hH hbk hE hod hbn hn0 hn1 hr (.new2 _ _ _ _ _ (.fill (hG 0 (by omega)).2) (.fill (by rw [List.length_set]; exact (hG 1 (by omega)).2))) hK
        | upd id wr news k =>
          simp only [meetD] at hm
          split at hm
          · rename_i o ho
            split at hm
            · rename_i v' o' hko
              split at hm
              · rename_i hwr
                split at hm
                · rename_i hp
                  simp only [Option.some.injEq, Prod.mk.injEq] at hm
                  obtain ⟨rfl, rfl, rfl⟩ := hm
                  have hmet := Met.upd (C := C) (bs := bs) (nid := b + x.2.2) id wr news k o o' v' ho hko (fun _ => hp)
                  rw [if_pos hwr] at hmet
                  exact wp_met hS hH hbk hE hod hbn hn0 hn1 hr hmet hK
                · cases hm
              · rename_i hwr
                simp only [Option.some.injEq, Prod.mk.injEq] at hm
                obtain ⟨rfl, rfl, rfl⟩ := hm
                have hmet := Met.upd (C := C) (bs := bs) (nid := b + x.2.2) id wr news k o o' v' ho hko (fun h => absurd h hwr)
                rw [if_neg hwr] at hmet
                exact wp_met hS hH hbk hE hod hbn hn0 hn1 hr hmet hK
            · cases hm
          · cases hm
        | call f args =>
          simp only [meetD] at hm
          split at hm
          · rename_i hc
            split at hm
            · rename_i v' H' hC
              split at hm
              · rename_i hHe
                simp only [Option.some.injEq, Prod.mk.injEq] at hm
                obtain ⟨rfl, rfl, rfl⟩ := hm
                have hcall : ∃ c, x.1.op = .call c := by
                  have hr' := hr
                  cases hop : x.1.op with
                  | call c => exact ⟨c, rfl⟩
                  | buildSlice t n ps =>
                    rw [hop] at hr'
                    obtain ⟨e, z, es, _, _, _, _, _, _, hrr⟩ := build_req hr'
                    split at hrr <;> cases hrr
                  | _ =>
                    rw [hop] at hr'
                    simp only [req] at hr'
                    (repeat' split at hr') <;> simp at hr'
                obtain ⟨c, hop⟩ := hcall
                refine wp_callB hS hop hH hbl hb hbK hE hod hr hc hC ?_
                rw [hHe, List.take_append_drop]
                exact hK
              · cases hm
            · cases hm
          · cases hm
      · cases h
    · cases h
  · rename_i hw
    rw [wants_wanted hE hw, if_neg (by simp)]
    simp only [Option.some.injEq, Prod.mk.injEq] at h
    obtain ⟨rfl, rfl, rfl⟩ := h
    exact hK undef w G St O hH (hE.skip hod) (Step.refl O w St) (GLe.refl G)
  · cases h
/-- The places that are kept for the others stay empty. -/
theorem stepD_dead {x : NOp} {E1 : Env} {K1 : List AO} {f : Foot} (h : stepD P an C bs ops b x E K = some (E1, K1, f)) {i : Nat} (hi : K[i]? = some .dead) (hne : ∀ s, s < newsOf an x.1 → i ≠ b + x.2.2 + s) : K1[i]? = some .dead := by
  unfold stepD at h
  split at h
  · unfold evOpD at h
    split at h
    · rename_i r hr
      split at h
      · rename_i v K2 ft hm
        simp only [Option.some.injEq, Prod.mk.injEq] at h
        obtain ⟨rfl, rfl, rfl⟩ := h
        cases r with
        | val v => simp only [meetD, Option.some.injEq, Prod.mk.injEq] at hm; obtain ⟨rfl, rfl, rfl⟩ := hm; exact hi
        | new ob v =>
          simp only [meetD, Option.some.injEq, Prod.mk.injEq] at hm
          obtain ⟨rfl, rfl, rfl⟩ := hm
          rw [List.getElem?_set_ne (show b + x.2.2 ≠ i from fun h => hne 0 (req_new hr) h.symm)]; exact hi
        | new2 ob ob' v =>
          simp only [meetD, Option.some.injEq, Prod.mk.injEq] at hm
          obtain ⟨rfl, rfl, rfl⟩ := hm
          have h2 := req_new2 hr
          rw [List.getElem?_set_ne (show b + x.2.2 + 1 ≠ i from fun h => hne 1 (by omega) h.symm), List.getElem?_set_ne (show b + x.2.2 ≠ i from fun h => hne 0 (by omega) h.symm)]; exact hi
        | upd id wr news k =>
          have hd := req_upd_dead hr
          simp only [meetD] at hm
          split at hm
          · rename_i o ho
            split at hm
            · rename_i v' o' hko
              have hid : id ≠ i := by
                intro e; subst e
                rw [hi] at ho
                injection ho with ho
                subst ho
                rw [hd] at hko; cases hko
              split at hm
              · split at hm
                · simp only [Option.some.injEq, Prod.mk.injEq] at hm
                  obtain ⟨rfl, rfl, rfl⟩ := hm
                  rw [List.getElem?_set_ne hid]; exact hi
                · cases hm
              · simp only [Option.some.injEq, Prod.mk.injEq] at hm
                obtain ⟨rfl, rfl, rfl⟩ := hm
                exact hi
            · cases hm
          · cases hm
        | call f args =>
          simp only [meetD] at hm
          split at hm
          · split at hm
            · split at hm
              · simp only [Option.some.injEq, Prod.mk.injEq] at hm
                obtain ⟨rfl, rfl, rfl⟩ := hm
                exact hi
              · cases hm
            · cases hm
          · cases hm
      · cases h
    · cases h
  · simp only [Option.some.injEq, Prod.mk.injEq] at h
    obtain ⟨rfl, rfl, rfl⟩ := h
    exact hi
  · cases h
theorem stepD_len {x : NOp} {E1 : Env} {K1 : List AO} {f : Foot} (h : stepD P an C bs ops b x E K = some (E1, K1, f)) : K1.length = K.length := by
  unfold stepD at h
  split at h
  · unfold evOpD at h
    split at h
    · rename_i r hr
      split at h
      · rename_i v K2 ft hm
        simp only [Option.some.injEq, Prod.mk.injEq] at h
        obtain ⟨rfl, rfl, rfl⟩ := h
        cases r <;> simp only [meetD] at hm
        · simp only [Option.some.injEq, Prod.mk.injEq] at hm; obtain ⟨rfl, rfl, rfl⟩ := hm; rfl
        · simp only [Option.some.injEq, Prod.mk.injEq] at hm; obtain ⟨rfl, rfl, rfl⟩ := hm; simp
        · simp only [Option.some.injEq, Prod.mk.injEq] at hm; obtain ⟨rfl, rfl, rfl⟩ := hm; simp
        · (repeat' split at hm) <;> simp at hm <;> (obtain ⟨_, rfl, _⟩ := hm; simp)
        · (repeat' split at hm) <;> simp at hm <;> (obtain ⟨_, rfl, _⟩ := hm; simp)
      · cases h
    · cases h
  · simp only [Option.some.injEq, Prod.mk.injEq] at h
    obtain ⟨rfl, rfl, rfl⟩ := h
    rfl
  · cases h
theorem EI.eqv {T : Array Value} (h : EI G w St O E T) (he : eqE E' E) : EI G w St O E' T := ⟨fun t => by rw [he t]; exact h.env t, fun t es hh => h.own t es (by rw [← he t]; exact hh)⟩
theorem draw_sim {n : Nat} {Q : Exit → Act → World → Prop} (hS : SimC P C) (hL : CLen C) (hd : ∀ (i : Nat) (o : Oper) (d : Tmp), ops[i]? = some o → o.dst = some d → d < n) (hback : ∀ j o, ops[j]? = some o → ∀ e ∈ o.after, Region.binds .any e = true → e.on < j)
    (hbl : ∀ b' ∈ bs, b' ≤ b) (hb : b ∈ bs) :
    ∀ (m : Nat) (L : List NOp), L.length = m → ∀ (G : GS) (w : World) (St : Sts) (O : Nat → Ow) (K : List AO) (E : Env) (a : Act) (listed : Array Bool) (fs : List (Nat × Foot)) (Ef : Env),
      (∀ x ∈ L, ops[x.2.1]? = some x.1) → (∀ i, i < ops.size → (listed.getD i true = false ↔ ∃ x ∈ L, x.2.1 = i)) → listed.size = ops.size → L.Pairwise (Rel an ops) →
      (∀ k, listed.getD k false = true → ∀ o, ops[k]? = some o → ∀ e ∈ o.after, Region.binds .any e = true → listed.getD e.on false = true) →
      evOpsD P an C bs ops b L E K = some (Ef, K', fs) → footsOk ops b fs = true → (∀ x ∈ L, ∀ s, s < newsOf an x.1 → K[b + x.2.2 + s]? = some .dead) →
      n ≤ a.tmps.size → b ≤ K.length → HI G w St O bs K → EI G w St O E a.tmps → GoesR G w St O bs K' Ef a b (Q .normal) → wpAny P .any ops Q m listed a w
  | 0, L, hLm, G, w, St, O, K, E, a, listed, fs, Ef, hL1, hL2, hsz, hpw, hcl, hrun, hf, hsl, hn, hbK, hH, hE, hK => by
    have hnil : L = [] := List.length_eq_zero_iff.1 hLm
    subst hnil
    simp only [evOpsD, Option.some.injEq, Prod.mk.injEq] at hrun
    obtain ⟨rfl, rfl, rfl⟩ := hrun
    simp only [wpAny]
    refine ⟨?_, hK a w G St O rfl rfl hH hE (Step.refl O w St) (GLe.refl G) (fun b' hb' => Nat.le_trans (hbl b' hb') hbK) hbK⟩
    apply List.eq_nil_iff_forall_not_mem.2
    intro j hj
    obtain ⟨h1, o, h2, _⟩ := mem_ready.1 hj
    obtain ⟨x, hx, _⟩ := (hL2 j (Array.getElem?_eq_some_iff.1 h2).1).1 h1
    cases hx
  | m + 1, L, hLm, G, w, St, O, K, E, a, listed, fs, Ef, hL1, hL2, hsz, hpw, hcl, hrun, hf, hsl, hn, hbK, hH, hE, hK => by
    have hunl : ∀ i, i < ops.size → (listed.getD i false = true ∨ ∃ x ∈ L, x.2.1 = i) := fun i hi => by
      by_cases h : listed.getD i true = false
      · exact .inr ((hL2 i hi).1 h)
      · left
        have hlt : i < listed.size := by omega
        simp only [Array.getD_eq_getD_getElem?, Array.getElem?_eq_getElem hlt, Option.getD_some] at h ⊢
        simpa using h
    simp only [wpAny]
    refine ⟨fun hnil => ?_, fun i hi => ?_⟩
    · -- the first of those that are left is ready
      cases L with
      | nil => simp at hLm
      | cons x L =>
        exfalso
        have hx := hL1 x List.mem_cons_self
        have hxl : x.2.1 < ops.size := (Array.getElem?_eq_some_iff.1 hx).1
        have : x.2.1 ∈ Region.ready .any ops listed := by
          refine mem_ready.2 ⟨(hL2 _ hxl).2 ⟨x, List.mem_cons_self, rfl⟩, x.1, hx, fun e he hbd => ?_⟩
          have hlt := hback _ _ hx e he hbd
          rcases hunl e.on (by omega) with h | ⟨y, hy, hye⟩
          · exact h
          · exfalso
            rcases List.mem_cons.1 hy with h | h
            · rw [h] at hye; omega
            · have := ((List.pairwise_cons.1 hpw).1 y h).1; omega
        rw [hnil] at this
        cases this
    · obtain ⟨h1, o, h2, h3⟩ := mem_ready.1 hi
      have hil : i < ops.size := (Array.getElem?_eq_some_iff.1 h2).1
      obtain ⟨x, hxL, hxi⟩ := (hL2 i hil).1 h1
      subst hxi
      have hxo := hL1 x hxL
      obtain ⟨A, B, rfl⟩ := List.append_of_mem hxL
      have hpA : ∀ y ∈ A, Rel an ops y x := fun y hy => (List.pairwise_append.1 hpw).2.2 y hy x List.mem_cons_self
      have hpB : ∀ y ∈ B, Rel an ops x y := (List.pairwise_cons.1 (List.pairwise_append.1 hpw).2.1).1
      have hAp : ∀ y ∈ A, freeOf an ops y.1 x.1 = true ∧ prec ops 4 x.2.1 y.2.1 = false := fun y hy => by
        have hnp : prec ops 4 x.2.1 y.2.1 = false := by
          by_cases hp : prec ops 4 x.2.1 y.2.1 = true
          · have hyl := prec_listed hcl 4 _ _ hp fun o' ho' e he hbd => by
              rw [h2] at ho'
              injection ho' with ho'
              subst ho'
              exact h3 e he hbd
            have hyo := hL1 y (List.mem_append_left _ hy)
            have hyu := (hL2 y.2.1 (Array.getElem?_eq_some_iff.1 hyo).1).2 ⟨y, List.mem_append_left _ hy, rfl⟩
            have hlt : y.2.1 < listed.size := by have := (Array.getElem?_eq_some_iff.1 hyo).1; omega
            simp only [Array.getD_eq_getD_getElem?, Array.getElem?_eq_getElem hlt, Option.getD_some] at hyl hyu
            rw [hyl] at hyu; cases hyu
          · simpa using hp
        refine ⟨?_, hnp⟩
        rcases (hpA y hy).2.2 with h | h
        · exact h
        · rw [hnp] at h; cases h
      obtain ⟨E1, K1, f, E2, fs', p1, p2, p3, p4, _, _⟩ := pull A hrun hf hAp
      have hod : ∀ t, x.1.dst = some t → t < a.tmps.size := fun t ht => Nat.lt_of_lt_of_le (hd _ _ t hxo ht) hn
      have hlen := stepD_len p1
      refine wp_stepD hS hL hxo hod p1 hH hE hbl hb hbK (hsl x hxL) fun cv w' G' St' O' e1 e2 e3 e4 => ?_
      have hsub : (A ++ B).Sublist (A ++ x :: B) := List.Sublist.append_left (List.sublist_cons_self x B) A
      refine draw_sim hS hL hd hback hbl hb m (A ++ B) (by simp at hLm ⊢; omega) G' w' St' O' K1 E1 (a.put x.1.dst cv) (listed.setIfInBounds x.2.1 true) fs' E2 (fun y hy => hL1 y (hsub.subset hy)) (fun j hj => ?_) (by simpa using hsz) (hpw.sublist hsub) (fun k hk o' ho' e he hbd => ?_) p2 p4 (fun y hy s hs => ?_) (by rw [put_size]; exact hn) (by omega) e1 e2 ?_
      · by_cases hji : x.2.1 = j
        · subst hji
          have hlt : x.2.1 < listed.size := by omega
          simp only [Array.getD_eq_getD_getElem?, Array.getElem?_setIfInBounds, hlt, if_true, Option.getD_some]
          refine ⟨fun h => by simp at h, fun ⟨y, hy, hye⟩ => ?_⟩
          exfalso
          rcases List.mem_append.1 hy with h | h
          · have := (hpA y h).1; omega
          · have := (hpB y h).1; omega
        · rw [getD_set_ne true hji, hL2 j hj]
          constructor
          · rintro ⟨y, hy, rfl⟩
            rcases List.mem_append.1 hy with h | h
            · exact ⟨y, List.mem_append_left _ h, rfl⟩
            · rcases List.mem_cons.1 h with h | h
              · exact absurd (by rw [h]) hji
              · exact ⟨y, List.mem_append_right _ h, rfl⟩
          · rintro ⟨y, hy, rfl⟩
            exact ⟨y, hsub.subset hy, rfl⟩
      · by_cases hki : x.2.1 = k
        · subst hki
          rw [h2] at ho'
          injection ho' with ho'
          subst ho'
          exact getD_set_true (h3 e he hbd)
        · rw [getD_set_ne false hki] at hk
          exact getD_set_true (hcl k hk o' ho' e he hbd)
      · refine stepD_dead p1 (hsl y (hsub.subset hy) s hs) fun s' hs' => ?_
        rcases List.mem_append.1 hy with h | h
        · have := (hpA y h).2.1; omega
        · have := (hpB y h).2.1; omega
      · intro a2 w2 G2 St2 O2 f1 f2 f3 f4 f5 f6 f7 f8
        exact hK a2 w2 G2 St2 O2 (f1.trans (put_size _ _ _)) (f2.trans (put_defers _ _ _)) f3 (f4.eqv p3) (e3.trans f5) (e4.trans f6) f7 f8
theorem HI.drew (h : HI G w St O bs K) : HI G { w with drawn := w.drawn + 1 } St O bs K :=
  h.keep (GSub.refl G) h.gst (fun _ _ _ => ⟨rfl, fun _ _ h => h⟩) (fun _ _ h => h) (fun _ _ => ⟨rfl, rfl, fun _ h => h⟩) h.low h.stl
theorem EI.drew {T : Array Value} (h : EI G w St O E T) : EI G { w with drawn := w.drawn + 1 } St O E T :=
  h.keep (GLe.refl G) (fun _ _ _ => ⟨rfl, fun _ _ h => h⟩) (fun _ _ h => h) fun _ _ => ⟨rfl, rfl, fun _ h => h⟩
theorem Step.drew : Step O w St O { w with drawn := w.drawn + 1 } St :=
  ⟨rfl, rfl, rfl, Nat.le_refl _, fun _ _ _ => rfl, fun _ _ _ => ⟨rfl, fun _ _ h => h⟩, fun _ _ h => h, fun _ _ h => .inl h, fun _ h => .inl h⟩
theorem wp_evDraw {id n : Nat} {Q : Exit → Act → World → Prop} (hm : P.follows .mixedOrders = true) (hS : SimC P C) (hL : CLen C) (hd : ∀ (i : Nat) (o : Oper) (d : Tmp), ops[i]? = some o → o.dst = some d → d < n) (hok : drawOk an ops = true)
    (hn : n ≤ a.tmps.size) (hH : HI G w St O bs K) (hE : EI G w St O E a.tmps) (hbl : ∀ b ∈ bs, b ≤ K.length) (he : evDraw P an C bs ops E K = some (E', K')) (hK : GoesR G w St O bs K' E' a K.length (Q .normal)) : (Code.region id ops true).wp P Q a w := by
  obtain ⟨hp, hback⟩ := drawOk_spec hok
  unfold evDraw at he
  split at he
  · rename_i E1 K1 fs hrun
    split at he
    · rename_i hf
      simp only [Option.some.injEq, Prod.mk.injEq] at he
      obtain ⟨rfl, rfl⟩ := he
      have hg : ∀ id, K.length ≤ id → G id = none := hH.gst
      have hH0 : HI G w St O (K.length :: bs) (K ++ List.replicate (newsIn an ops.toList) .dead) := by
        refine ⟨fun id o ho => ?_, fun id hid => hg id (by simp at hid; omega), hH.low, hH.stl, fun b hb id o hlt ho => ?_⟩
        · rcases Nat.lt_or_ge id K.length with h | h
          · rw [List.getElem?_append_left h] at ho
            exact hH.obj id o ho
          · rw [List.getElem?_append_right h, List.getElem?_replicate] at ho
            split at ho
            · injection ho with ho; subst ho; exact hg id h
            · cases ho
        · have hbK : b ≤ K.length := by
            rcases List.mem_cons.1 hb with h | h
            · omega
            · exact hbl b h
          rw [List.getElem?_append_left (by omega)] at ho
          rcases List.mem_cons.1 hb with h | h
          · subst h; exact hH.top id o ho
          · exact hH.bas b h id o hlt ho
      refine wp_region_any hm ?_
      refine draw_sim (bs := K.length :: bs) (b := K.length) hS hL hd hback (fun b' hb' => ?_) List.mem_cons_self ops.size (numbered an ops.toList 0 0) (by rw [numbered_len, Array.length_toList]) G _ St O _ E a _ fs _ (fun x hx => ?_) (fun i hi => ?_) (by simp)
        (numbered_pair hp ops.toList 0 0 fun k o hk => by simpa using hk) (fun k hk => ?_) hrun hf (fun x hx s hs => ?_) hn (by simp) hH0.drew hE.drew ?_
      · rcases List.mem_cons.1 hb' with h | h
        · omega
        · exact hbl b' h
      · have := (numbered_mem hx).2.1
        simpa using this
      · simp only [Array.getD_eq_getD_getElem?, Array.getElem?_replicate, hi, if_true, Option.getD_some, true_iff]
        obtain ⟨x, h1, h2, h3⟩ := numbered_all (an := an) (l := ops.toList) (i := 0) (rk := 0) (j := i) (o := ops[i]) (by simp [hi])
        exact ⟨x, h1, by omega⟩
      · exfalso
        simp only [Array.getD_eq_getD_getElem?, Array.getElem?_replicate] at hk
        split at hk <;> simp at hk
      · have := (numbered_mem hx).2.2.2
        rw [List.getElem?_append_right (by omega), List.getElem?_replicate, if_pos (by omega)]
      · intro a2 w2 G2 St2 O2 f1 f2 f3 f4 f5 f6 f7 f8
        exact hK a2 w2 G2 St2 O2 f1 f2 ⟨f3.obj, f3.gst, f3.low, f3.stl, fun b hb => f3.bas b (List.mem_cons_of_mem _ hb)⟩ f4 (Step.drew.trans f5) f6 (fun b hb => f7 b (List.mem_cons_of_mem _ hb)) f8
    · cases he
  · cases he
end Go.VM
