/-
  The abstract machine, part O.
-/
import Derived.Test.YtlpilgnjlnepeaaMN
set_option linter.all false
namespace Go.VM
variable {P : Program} {G : GS} {w : World} {St : Sts} {O : Nat → Ow} {bs : List Nat} {K K' : List AO} {E E' : Env} {a : Act}

def CLen (C : CallF) : Prop := ∀ f args bs H v H', C f args bs H = some (v, H') → H'.length = H.length
theorem wants_wanted {ops : Array Oper} {o : Oper} {b : Bool} (hE : EI G w St O E a.tmps) (h : wants ops E o = some b) : Region.wanted o (yielded ops a.tmps) = b := by
  unfold wants at h
  unfold Region.wanted
  cases hg : o.guard with
  | none => rw [hg] at h; simpa using h
  | some g =>
    obtain ⟨j, want⟩ := g
    rw [hg] at h
    simp only at h ⊢
    cases hd : (ops[j]?).bind (·.dst) with
    | none => rw [hd] at h; cases h
    | some t =>
      rw [hd] at h
      simp only at h
      split at h
      · rename_i c hc
        injection h with h
        have hv := hE.env t
        rw [hc] at hv
        have hv := hv.inv_bool
        have ht : a.tmps[t]? = some (.bool c) := by
          rw [Array.getD_eq_getD_getElem?] at hv
          cases hx : a.tmps[t]? with
          | none => rw [hx] at hv; simp [undef] at hv
          | some x => rw [hx] at hv; simp at hv; rw [hv]
        unfold yielded
        rw [hd]
        simp only [Option.bind_some, ht]
        rw [← h]
        cases c <;> cases want <;> rfl
      · rename_i vs hc
        injection h with h
        subst h
        have hv := hE.env t
        rw [hc] at hv
        have hn : ∀ c, a.tmps[t]? ≠ some (.bool c) := by
          intro c hx
          rw [Array.getD_eq_getD_getElem?, hx] at hv
          cases hv
        unfold yielded
        rw [hd]
        simp only [Option.bind_some]
        cases hx : a.tmps[t]? with
        | none => rfl
        | some x =>
          cases x with
          | bool c => exact absurd hx (hn c)
          | _ => rfl
      · cases h
/-- What whoever goes on behind a region may take for granted. -/
def GoesR (G : GS) (w : World) (St : Sts) (O : Nat → Ow) (bs : List Nat) (K' : List AO) (E' : Env) (a : Act) (n : Nat) (next : Act → World → Prop) : Prop :=
  ∀ a' w' G' St' O', a'.tmps.size = a.tmps.size → a'.defers = a.defers → HI G' w' St' O' bs K' → EI G' w' St' O' E' a'.tmps → Step O w St O' w' St' → GLe G G' → (∀ b ∈ bs, b ≤ K'.length) → n ≤ K'.length → next a' w'
theorem put_size (a : Act) (d : Option Tmp) (v : Value) : (a.put d v).tmps.size = a.tmps.size := by cases d <;> simp [Act.put]
theorem put_defers (a : Act) (d : Option Tmp) (v : Value) : (a.put d v).defers = a.defers := by cases d <;> rfl
theorem EI.skip (hE : EI G w St O E a.tmps) {d : Option Tmp} (ht : ∀ t, d = some t → t < a.tmps.size) : EI G w St O (putD E d (.tup [])) (a.put d undef).tmps :=
  hE.put_dst (.tup [] #[] rfl (fun i x u h _ => by cases h)) (fun es t _ h => by cases h) ht
theorem meet_met {C : CallF} {r : Req} {v : AV} (h : meet C bs K r = some (v, K')) : Met C bs K.length K r v K' := by
  cases r with
  | val v => simp only [meet, Option.some.injEq, Prod.mk.injEq] at h; obtain ⟨rfl, rfl⟩ := h; exact .val _
  | new o v => simp only [meet, Option.some.injEq, Prod.mk.injEq] at h; obtain ⟨rfl, rfl⟩ := h; exact .new _ _ _ (.push rfl)
  | new2 o o' v =>
    simp only [meet, Option.some.injEq, Prod.mk.injEq] at h
    obtain ⟨rfl, rfl⟩ := h
    refine .new2 _ _ _ (K ++ [o]) _ (.push rfl) ?_
    have : K ++ [o, o'] = (K ++ [o]) ++ [o'] := by simp
    rw [this]
    exact .push (by simp)
  | upd id wr news k =>
    simp only [meet] at h
    split at h
    · rename_i o ho
      split at h
      · rename_i v' o' hk
        split at h
        · rename_i hw
          split at h
          · rename_i hp
            simp only [Option.some.injEq, Prod.mk.injEq] at h
            obtain ⟨rfl, rfl⟩ := h
            have := Met.upd (C := C) (bs := bs) (nid := K.length) id wr news k o o' v' ho hk (fun _ => hp)
            rwa [if_pos hw] at this
          · cases h
        · rename_i hw
          simp only [Option.some.injEq, Prod.mk.injEq] at h
          obtain ⟨rfl, rfl⟩ := h
          have := Met.upd (C := C) (bs := bs) (nid := K.length) id wr news k o o' v' ho hk (fun h => absurd h hw)
          rwa [if_neg hw] at this
      · cases h
    · cases h
  | call f args => exact .call _ _ _ _ h
theorem Grows.len {K K' : List AO} {nid : Nat} {o : AO} (h : Grows K nid o K') : K.length ≤ K'.length := h.get.2.2.1
theorem Met.len {C : CallF} (hL : CLen C) {nid : Nat} {r : Req} {v : AV} (h : Met C bs nid K r v K') : K.length ≤ K'.length := by
  cases h with
  | val => exact Nat.le_refl _
  | new o v K' h => exact h.len
  | new2 o o' v K1 K' h h' => exact Nat.le_trans h.len h'.len
  | upd id wr news k o o' v hid hk hp => split <;> simp
  | call f args v K' h => exact Nat.le_of_eq (hL _ _ _ _ _ _ h).symm
theorem wp_evOps {C : CallF} {an : Ann} {ops : Array Oper} {n : Nat} {Q : Exit → Act → World → Prop} (hS : SimC P C) (hL : CLen C) (hd : ∀ (i : Nat) (o : Oper) (d : Tmp), ops[i]? = some o → o.dst = some d → d < n) :
    ∀ (l : List Oper) (k : Nat), ops.toList.drop k = l → ∀ (G : GS) (w : World) (St : Sts) (O : Nat → Ow) (K : List AO) (E : Env) (a : Act), n ≤ a.tmps.size → HI G w St O bs K → EI G w St O E a.tmps → (∀ b ∈ bs, b ≤ K.length) →
      evOps P an C bs ops l E K = some (E', K') → GoesR G w St O bs K' E' a K.length (Q .normal) → wpOps P ops Q (List.range' k l.length) a w
  | [], k, _, G, w, St, O, K, E, a, hn, hH, hE, hb, he, hK => by
    simp only [evOps, Option.some.injEq, Prod.mk.injEq] at he
    obtain ⟨rfl, rfl⟩ := he
    simp only [List.length_nil, List.range'_zero, wpOps]
    exact hK a w G St O rfl rfl hH hE (Step.refl O w St) (GLe.refl G) hb (Nat.le_refl _)
  | o :: l, k, hk, G, w, St, O, K, E, a, hn, hH, hE, hb, he, hK => by
    have hok : ops[k]? = some o := by
      have := congrArg List.head? hk
      rw [List.head?_drop] at this
      simpa using this
    have hnext : ops.toList.drop (k + 1) = l := by
      have := congrArg List.tail hk
      rw [List.tail_drop] at this
      simpa using this
    have hod : ∀ t, o.dst = some t → t < a.tmps.size := fun t ht => Nat.lt_of_lt_of_le (hd k o t hok ht) hn
    simp only [evOps] at he
    rw [List.length_cons, List.range'_succ]
    simp only [wpOps, hok]
    split at he
    · rename_i hw
      rw [wants_wanted hE hw, if_pos rfl]
      left
      split at he
      · rename_i E1 K1 h1
        unfold evOp at h1
        split at h1
        · rename_i r hr
          split at h1
          · rename_i v K2 hm
            simp only [Option.some.injEq, Prod.mk.injEq] at h1
            obtain ⟨rfl, rfl⟩ := h1
            have hmet := meet_met hm
            have hlen := hmet.len hL
            refine wp_met hS hH hb hE hod hb (fun _ => hH.gst _ (Nat.le_refl _)) (fun _ => hH.gst _ (Nat.le_succ _)) hr hmet ?_
            intro cv w' G' St' O' e1 e2 e3 e4
            refine wp_evOps hS hL hd l (k + 1) hnext G' w' St' O' K2 _ (a.put o.dst cv) (by rw [put_size]; exact hn) e1 e2 (fun b hb' => Nat.le_trans (hb b hb') hlen) he ?_
            intro a2 w2 G2 St2 O2 f1 f2 f3 f4 f5 f6 f7 f8
            exact hK a2 w2 G2 St2 O2 (f1.trans (put_size _ _ _)) (f2.trans (put_defers _ _ _)) f3 f4 (e3.trans f5) (e4.trans f6) f7 (Nat.le_trans hlen f8)
          · cases h1
        · cases h1
      · cases he
    · rename_i hw
      rw [wants_wanted hE hw, if_neg (by simp)]
      refine wp_evOps hS hL hd l (k + 1) hnext G w St O K _ (a.put o.dst undef) (by rw [put_size]; exact hn) hH (hE.skip hod) hb he ?_
      intro a2 w2 G2 St2 O2 f1 f2 f3 f4 f5 f6 f7 f8
      exact hK a2 w2 G2 St2 O2 (f1.trans (put_size _ _ _)) (f2.trans (put_defers _ _ _)) f3 f4 f5 f6 f7 f8
    · cases he
end Go.VM
