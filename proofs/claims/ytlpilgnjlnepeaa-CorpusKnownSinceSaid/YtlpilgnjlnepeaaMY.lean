/-
  The abstract machine, part Y.
-/
import Derived.Test.YtlpilgnjlnepeaaMX
set_option linter.all false
namespace Go.VM
variable {P : Program} {G : GS} {w : World} {St : Sts} {O : Nat → Ow} {bs : List Nat} {K K' : List AO} {E E' : Env} {a : Act} {an : Ann} {C : CallF}

def exQ : Ex → Exit
  | .normal => .normal
  | .exit id => .exit id
  | .ret => .ret
def GoesX (G : GS) (w : World) (St : Sts) (O : Nat → Ow) (bs : List Nat) (K' : List AO) (E' : Env) (a : Act) (n : Nat) (x : Ex) (Q : Exit → Act → World → Prop) : Prop :=
  GoesR G w St O bs K' E' a n (Q (exQ x))
theorem keep_get (E : Env) : ∀ (ts : List Nat) (t : Nat), (E.keep ts).get t = if t ∈ ts then E.get t else .poison
  | [], t => by simp [Env.keep, Env.get]
  | u :: ts, t => by
    have ih := keep_get E ts t
    simp only [Env.keep, List.map_cons, Env.get, List.mem_cons] at ih ⊢
    by_cases h : u = t
    · subst h; simp
    · rw [if_neg h, ih]
      by_cases h2 : t ∈ ts
      · simp [h2]
      · simp [h2, Ne.symm h]
theorem EI.kept {T : Array Value} (h : EI G w St O E T) (ts : List Nat) : EI G w St O (E.keep ts) T := by
  refine ⟨fun t => ?_, fun t es he => ?_⟩
  · rw [keep_get]; split
    · exact h.env t
    · exact .poison _
  · rw [keep_get] at he
    split at he
    · exact h.own t es he
    · cases he
theorem EI.keptAt {T : Array Value} (h : EI G w St O E T) (l : List (Nat × List Nat)) (k : Option Nat) : EI G w St O (keepAt l k E) T := by
  unfold keepAt
  split
  · split
    · exact h.kept _
    · exact h
  · exact h
theorem wp_loop_fuel {c : Code} {Q : Exit → Act → World → Prop} (R : Nat → Act → World → Prop) (round : ∀ m a w, R m a w → c.wp P (Exit.then (fun a' w' => ∃ m', m' < m ∧ R m' a' w') Q) a w) {m : Nat} {a : Act} {w : World} (h : R m a w) : (Code.loop c).wp P Q a w := by
  intro b k cs
  have key : ∀ n a w, R n a w → ∃ e a' w', Q e a' w' ∧ Arrives P (lone (b.at a (.code c :: .inLoop c :: k)) cs w) b k cs e a' w' := by
    intro n
    induction n using Nat.strongRecOn with
    | _ n ih =>
      intro a w hI
      obtain ⟨e, a₁, w₁, hq, harr⟩ := round n a w hI b (.inLoop c :: k) cs
      cases e with
      | normal =>
        obtain ⟨m', hlt, hI₁⟩ := hq
        obtain ⟨e₂, a₂, w₂, hq₂, harr₂⟩ := ih m' hlt a₁ w₁ hI₁
        exact ⟨e₂, a₂, w₂, hq₂, .of_steps (Steps.trans harr (.one step_inLoop)) harr₂⟩
      | exit id => exact ⟨_, a₁, w₁, hq, .pass (x := .inLoop c) rfl (fun _ _ => .inl (by simp)) harr⟩
      | goto l => exact ⟨_, a₁, w₁, hq, .pass (x := .inLoop c) rfl (fun _ _ => .inl (by simp)) harr⟩
      | ret => exact ⟨_, a₁, w₁, hq, .pass (x := .inLoop c) rfl (fun _ _ => .inl (by simp)) harr⟩
      | panic ch => exact ⟨_, a₁, w₁, hq, .pass (x := .inLoop c) rfl (fun _ _ => .inl (by simp)) harr⟩
      | outgrown => exact ⟨_, a₁, w₁, hq, .pass (x := .inLoop c) rfl (fun _ _ => .inl (by simp)) harr⟩
  obtain ⟨e, a', w', hq, harr⟩ := key m a w h
  exact ⟨e, a', w', hq, .of_steps (.one step_loop) harr⟩

/-! ### the head of a loop -/
def dropO (n : Nat) : Ow → Ow
  | .obj i => if n ≤ i then .no else .obj i
  | .cell i j => if n ≤ i then .no else .cell i j
  | p => p
theorem dropO_no {n : Nat} {p : Ow} (h : dropO n p ≠ .no) : p ≠ .no := by intro e; subst e; exact h rfl
theorem dropO_low {n id : Nat} {p : Ow} (hid : id < n) (h : p = .obj id ∨ ∃ j, p = .cell id j) : dropO n p = p := by
  rcases h with h | ⟨j, h⟩ <;> rw [h] <;> simp only [dropO] <;> rw [if_neg (by omega)]
theorem cloEnv_get {n : Nat} : ∀ {E : Env}, cloEnv n E = true → ∀ t, clo (below n) (E.get t) = true
  | [], _, t => rfl
  | (u, v) :: r, h, t => by
    simp only [cloEnv, Bool.and_eq_true] at h
    simp only [Env.get]
    split
    · exact h.1
    · exact cloEnv_get h.2 t
theorem EI.trunc {n : Nat} {T : Array Value} (h : EI G w St O E T) (hc : cloEnv n E = true) : EI (cutG G (below n)) w St (fun q => dropO n (O q)) E T :=
  ⟨fun t => (h.env t).cut (cloEnv_get hc t), fun t es he => (h.own t es he).keep fun b hb => ⟨by show dropO n (O b) = _; rw [hb]; rfl, rfl, fun _ h => h⟩⟩
theorem Step.drop (n : Nat) (O : Nat → Ow) (w : World) (St : Sts) : Step O w St (fun q => dropO n (O q)) w St :=
  let r := Step.refl O w St
  ⟨r.os, r.tape, r.output, r.size, r.old, r.stb, r.mono, r.new, fun b hb => .inl (dropO_no hb)⟩
theorem GLe.cut {G0 : GS} {n : Nat} (h : GLe G0 G) (hg : ∀ id, n ≤ id → G0 id = none) : GLe G0 (cutG G (below n)) := fun id g hid => by
  obtain ⟨g', h1, h2⟩ := h id g hid
  refine ⟨g', ?_, h2⟩
  have : id < n := by
    rcases Nat.lt_or_ge id n with h | h
    · exact h
    · rw [hg id h] at hid; cases hid
  simp [cutG, below, this, h1]
theorem HI.weak {bs' : List Nat} (h : HI G w St O bs K) (hb : ∀ b ∈ bs', b ∈ bs) : HI G w St O bs' K := ⟨h.obj, h.gst, h.low, h.stl, fun b hb' => h.bas b (hb b hb')⟩
theorem HI.with_top (h : HI G w St O bs K) : HI G w St O (K.length :: bs) K :=
  ⟨h.obj, h.gst, h.low, h.stl, fun b hb id o hlt ho => by
    rcases List.mem_cons.1 hb with h1 | h1
    · subst h1; exact h.top id o ho
    · exact h.bas b h1 id o hlt ho⟩
theorem then_exQ {x : Ex} {next : Act → World → Prop} {Q : Exit → Act → World → Prop} {a : Act} {w : World} (hx : x ≠ .normal) (h : Q (exQ x) a w) : Exit.then next Q (exQ x) a w := by
  cases x with
  | normal => exact absurd rfl hx
  | exit id => exact h
  | ret => exact h
theorem wp_ev {n N : Nat} (hm : P.follows .mixedOrders = true) (hS : SimC P C) (hL : CLen C) : ∀ (c : Code), codeOk an n c = true → ∀ (bs : List Nat) (G : GS) (w : World) (St : Sts) (O : Nat → Ow) (K : List AO) (E : Env) (a : Act) (x : Ex) (E' : Env) (K' : List AO) (Q : Exit → Act → World → Prop),
    n ≤ a.tmps.size → HI G w St O bs K → EI G w St O E a.tmps → (∀ b ∈ bs, b ≤ K.length) → ev P an C (iterN N) c bs E K = some (x, E', K') → GoesX G w St O bs K' E' a K.length x Q → c.wp P Q a w := by
  intro c
  induction c with
  | skip =>
    intro _ bs G w St O K E a x E' K' Q hn hH hE hb he hK
    simp only [ev, Option.some.injEq, Prod.mk.injEq] at he
    obtain ⟨rfl, rfl, rfl⟩ := he
    exact wp_skip (hK a w G St O rfl rfl hH hE (Step.refl O w St) (GLe.refl G) hb (Nat.le_refl _))
  | exit id =>
    intro _ bs G w St O K E a x E' K' Q hn hH hE hb he hK
    simp only [ev, Option.some.injEq, Prod.mk.injEq] at he
    obtain ⟨rfl, rfl, rfl⟩ := he
    exact wp_exit (hK a w G St O rfl rfl hH hE (Step.refl O w St) (GLe.refl G) hb (Nat.le_refl _))
  | ret =>
    intro _ bs G w St O K E a x E' K' Q hn hH hE hb he hK
    simp only [ev, Option.some.injEq, Prod.mk.injEq] at he
    obtain ⟨rfl, rfl, rfl⟩ := he
    exact wp_ret (hK a w G St O rfl rfl hH hE (Step.refl O w St) (GLe.refl G) hb (Nat.le_refl _))
  | label l =>
    intro _ bs G w St O K E a x E' K' Q hn hH hE hb he hK
    simp only [ev, Option.some.injEq, Prod.mk.injEq] at he
    obtain ⟨rfl, rfl, rfl⟩ := he
    exact wp_label (hK a w G St O rfl rfl hH hE (Step.refl O w St) (GLe.refl G) hb (Nat.le_refl _))
  | region id ops dr =>
    intro hok bs G w St O K E a x E' K' Q hn hH hE hb he hK
    simp only [codeOk, Bool.and_eq_true] at hok
    have hd : ∀ (i : Nat) (o : Oper) (d : Tmp), ops[i]? = some o → o.dst = some d → d < n := fun i o d ho hod => by
      have := Array.all_eq_true_iff_forall_mem.1 hok.1 o (Array.mem_of_getElem? ho)
      rw [hod] at this
      simpa using this
    simp only [ev] at he
    split at he
    · rename_i e1 H1 h1
      simp only [Option.some.injEq, Prod.mk.injEq] at he
      obtain ⟨rfl, rfl, rfl⟩ := he
      have hK1 : GoesR G w St O bs H1 e1 a K.length (Q .normal) := fun a' w' G' St' O' f1 f2 f3 f4 f5 f6 f7 f8 => hK a' w' G' St' O' f1 f2 f3 (f4.keptAt _ _) f5 f6 f7 f8
      cases dr with
      | true =>
        rw [if_pos rfl] at h1
        exact wp_evDraw hm hS hL hd (by simpa using hok.2) hn hH hE hb h1 hK1
      | false =>
        rw [if_neg (by simp)] at h1
        refine wp_region ?_
        have := wp_evOps (bs := bs) (n := n) (Q := Q) hS hL hd ops.toList 0 rfl G w St O K E a hn hH hE hb h1 hK1
        rw [Array.length_toList] at this
        rw [List.range_eq_range']
        exact this
    · cases he
  | seq c1 c2 ih1 ih2 =>
    intro hok bs G w St O K E a x E' K' Q hn hH hE hb he hK
    simp only [codeOk, Bool.and_eq_true] at hok
    simp only [ev] at he
    refine wp_seq ?_
    split at he
    · rename_i e1 H1 h1
      refine ih1 hok.1 bs G w St O K E a .normal e1 H1 _ hn hH hE hb h1 ?_
      intro a1 w1 G1 St1 O1 f1 f2 f3 f4 f5 f6 f7 f8
      refine ih2 hok.2 bs G1 w1 St1 O1 H1 e1 a1 x E' K' Q (by rw [f1]; exact hn) f3 f4 f7 he ?_
      intro a2 w2 G2 St2 O2 g1 g2 g3 g4 g5 g6 g7 g8
      exact hK a2 w2 G2 St2 O2 (g1.trans f1) (g2.trans f2) g3 g4 (f5.trans g5) (f6.trans g6) g7 (Nat.le_trans f8 g8)
    · rename_i hnn
      have hx : x ≠ .normal := fun h => by subst h; exact hnn _ _ he
      refine ih1 hok.1 bs G w St O K E a x E' K' _ hn hH hE hb he ?_
      intro a1 w1 G1 St1 O1 f1 f2 f3 f4 f5 f6 f7 f8
      exact then_exQ hx (hK a1 w1 G1 St1 O1 f1 f2 f3 f4 f5 f6 f7 f8)
  | cond cc c1 c2 ih1 ih2 =>
    intro hok bs G w St O K E a x E' K' Q hn hH hE hb he hK
    simp only [codeOk, Bool.and_eq_true] at hok
    simp only [ev] at he
    split at he
    · rename_i hc
      have hv := evOpd_VR hE cc
      rw [hc] at hv
      exact wp_cond_true hv.inv_bool (ih1 hok.1 bs G w St O K E a x E' K' Q hn hH hE hb he hK)
    · rename_i hc
      have hv := evOpd_VR hE cc
      rw [hc] at hv
      exact wp_cond_false hv.inv_bool (ih2 hok.2 bs G w St O K E a x E' K' Q hn hH hE hb he hK)
    · cases he
  | block id c ih =>
    intro hok bs G w St O K E a x E' K' Q hn hH hE hb he hK
    simp only [codeOk] at hok
    simp only [ev] at he
    refine wp_block ?_
    split at he
    · rename_i i e1 H1 h1
      refine ih hok bs G w St O K E a (.exit i) e1 H1 _ hn hH hE hb h1 ?_
      intro a1 w1 G1 St1 O1 f1 f2 f3 f4 f5 f6 f7 f8
      simp only [exQ, Exit.inBlock]
      split at he
      · rename_i hi
        rw [if_pos hi]
        simp only [Option.some.injEq, Prod.mk.injEq] at he
        obtain ⟨rfl, rfl, rfl⟩ := he
        exact hK a1 w1 G1 St1 O1 f1 f2 f3 f4 f5 f6 f7 f8
      · rename_i hi
        rw [if_neg hi]
        simp only [Option.some.injEq, Prod.mk.injEq] at he
        obtain ⟨rfl, rfl, rfl⟩ := he
        exact hK a1 w1 G1 St1 O1 f1 f2 f3 f4 f5 f6 f7 f8
    · rename_i hne
      refine ih hok bs G w St O K E a x E' K' _ hn hH hE hb he ?_
      intro a1 w1 G1 St1 O1 f1 f2 f3 f4 f5 f6 f7 f8
      have := hK a1 w1 G1 St1 O1 f1 f2 f3 f4 f5 f6 f7 f8
      cases x with
      | normal => exact this
      | ret => exact this
      | exit i => exact absurd he (hne i E' K')
  | loop c ih =>
    intro hok bs G w St O K E a x E' K' Q hn hH hE hb he hK
    simp only [codeOk] at hok
    simp only [ev, iterN] at he
    have hH0 := hH.with_top
    let R : Nat → Act → World → Prop := fun m a1 w1 => ∃ G1 St1 O1 E1 H1, iter (keepAt an.head (headId c)) K.length (ev P an C (iterN N) c (K.length :: bs)) m E1 H1 = some (x, E', K') ∧ HI G1 w1 St1 O1 (K.length :: bs) H1 ∧ EI G1 w1 St1 O1 E1 a1.tmps ∧ a1.tmps.size = a.tmps.size ∧ a1.defers = a.defers ∧ Step O w St O1 w1 St1 ∧ GLe G G1
    refine wp_loop_fuel R (fun m a1 w1 hR => ?_) (m := N) ⟨G, St, O, E, K, he, hH0, hE, rfl, rfl, Step.refl O w St, GLe.refl G⟩
    obtain ⟨G1, St1, O1, E1, H1, hit, k1, k2, k3, k4, k5, k6⟩ := hR
    cases m with
    | zero => cases hit
    | succ m =>
      simp only [iter] at hit
      split at hit
      · rename_i hc
        have hT : HI (cutG G1 (below K.length)) w1 St1 (fun q => dropO K.length (O1 q)) (K.length :: bs) (H1.take K.length) :=
          k1.trunc hc.2 (fun id o hlt ho => k1.bas K.length List.mem_cons_self id o hlt ho) (fun q id hlt hq => dropO_low hlt hq) (fun q hq => dropO_no hq)
        have hTE := (k2.keptAt an.head (headId c)).trunc hc.1
        have hTb : ∀ b ∈ K.length :: bs, b ≤ (H1.take K.length).length := fun b hb1 => by
          rw [List.length_take, Nat.min_eq_left hc.2]
          rcases List.mem_cons.1 hb1 with h | h
          · omega
          · exact hb b h
        have hTS : Step O w St (fun q => dropO K.length (O1 q)) w1 St1 := k5.trans (Step.drop _ _ _ _)
        have hTG : GLe G (cutG G1 (below K.length)) := k6.cut hH.gst
        split at hit
        · rename_i e2 H2 h2
          refine ih hok _ _ w1 St1 _ _ _ a1 .normal e2 H2 _ (by rw [k3]; exact hn) hT hTE hTb h2 ?_
          intro a2 w2 G2 St2 O2 f1 f2 f3 f4 f5 f6 f7 f8
          exact ⟨m, Nat.lt_succ_self m, G2, St2, O2, e2, H2, hit, f3, f4, f1.trans k3, f2.trans k4, hTS.trans f5, hTG.trans f6⟩
        · rename_i hnn
          have hx : x ≠ .normal := fun h => by subst h; exact hnn _ _ hit
          refine ih hok _ _ w1 St1 _ _ _ a1 x E' K' _ (by rw [k3]; exact hn) hT hTE hTb hit ?_
          intro a2 w2 G2 St2 O2 f1 f2 f3 f4 f5 f6 f7 f8
          refine then_exQ hx (hK a2 w2 G2 St2 O2 (f1.trans k3) (f2.trans k4) (f3.weak fun b hb1 => List.mem_cons_of_mem _ hb1) f4 (hTS.trans f5) (hTG.trans f6) (fun b hb1 => f7 b (List.mem_cons_of_mem _ hb1)) (f7 _ List.mem_cons_self))
      · cases hit
  | _ => intro _ bs G w St O K E a x E' K' Q hn hH hE hb he hK; simp [ev] at he
end Go.VM
