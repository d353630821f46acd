/-
  The abstract machine, part Loop.
-/
import Derived.Test.YtlpilgnjlnepeaaMB
set_option linter.all false
namespace Go.VM

/-- How a round ends: on to a next state, or out with a result. -/
inductive Rnd (σ ρ : Type) where
  | next (s : σ)
  | out (r : ρ)
/-- 'st', 'hp': the kept temporaries and the heap at a state; 'step': what a round does; 'res': what the loop comes to. -/
theorem iterD_rule {σ ρ : Type} {c : Env → Env} {len : Nat} {g : Env → List AO → Option Out} (st : σ → Env) (hp : σ → List AO) (step : σ → Rnd σ ρ) (μ : σ → Nat) (ex : ρ → Ex) (hpo : ρ → List AO) (post : ρ → Env → Prop) (res : σ → ρ) (inv : σ → Prop)
    (hres : ∀ s, inv s → res s = match step s with | .next s' => res s' | .out r => r)
    (hdec : ∀ s s', inv s → step s = .next s' → inv s' ∧ μ s' < μ s)
    (hclo : ∀ s, inv s → cloEnv len (st s) = true ∧ len ≤ (hp s).length)
    (hround : ∀ s, inv s → match step s with
      | .next s' => ∃ e', g (st s) ((hp s).take len) = some (.normal, e', hp s') ∧ c e' = st s'
      | .out r => ∃ e', g (st s) ((hp s).take len) = some (ex r, e', hpo r) ∧ post r e' ∧ ex r ≠ .normal) :
    ∀ (s : σ) (e : Env), inv s → c e = st s → ∃ e', iterD c len g e (hp s) = some (ex (res s), e', hpo (res s)) ∧ post (res s) e' := by
  intro s
  generalize hn : μ s = n
  induction n using Nat.strongRecOn generalizing s with
  | _ n ih =>
    intro e hi he
    have h1 := hround s hi
    have h2 := hres s hi
    rw [iterD_eq, he, if_pos (hclo s hi)]
    cases hs : step s with
    | next s' =>
      rw [hs] at h1 h2
      obtain ⟨e', k1, k2⟩ := h1
      obtain ⟨i1, i2⟩ := hdec s s' hi hs
      rw [k1, h2]
      exact ih (μ s') (hn ▸ i2) s' rfl e' i1 k2
    | out r =>
      rw [hs] at h1 h2
      obtain ⟨e', k1, k2, k3⟩ := h1
      rw [k1, h2]
      refine ⟨e', ?_, k2⟩
      cases hx : ex r with
      | normal => exact absurd hx k3
      | exit i => rfl
      | ret => rfl
/-- A loop, folded. -/
noncomputable def lev (P : Program) (an : Ann) (C : CallF) (c : Code) (bs : List Nat) (e : Env) (H : List AO) : Option Out :=
  iterD (keepAt an.head (headId c)) H.length (ev P an C iterD c (H.length :: bs)) e H
theorem ev_loop (P : Program) (an : Ann) (C : CallF) (c : Code) (bs : List Nat) (e : Env) (H : List AO) : ev P an C iterD (.loop c) bs e H = lev P an C c bs e H := rfl
/-- A loop by an invariant: as long as it holds, a round leads on (to less) or out (to what was asked). -/
theorem lev_inv {P : Program} {an : Ann} {C : CallF} {c : Code} {bs : List Nat} {σ : Type} (st : σ → Env) (hp : σ → List AO) (J : σ → Prop) (μ : σ → Nat) (post : Ex → Env → List AO → Prop) (s0 : σ) (h0 : J s0)
    (hlen : ∀ s, J s → (hp s).length = (hp s0).length)
    (hclo : ∀ s, J s → cloEnv (hp s0).length (st s) = true)
    (hkeep : ∀ s, J s → keepAt an.head (headId c) (st s) = st s)
    (hround : ∀ s, J s → (∃ s', (match ev P an C iterD c ((hp s0).length :: bs) (st s) (hp s) with | some (.normal, e', H') => e' = st s' ∧ H'.take (hp s0).length = hp s' | _ => False) ∧ J s' ∧ μ s' < μ s) ∨
      (match ev P an C iterD c ((hp s0).length :: bs) (st s) (hp s) with | some (x, e', H') => x ≠ .normal ∧ post x e' H' | none => False)) :
    ∃ x e' H', lev P an C c bs (st s0) (hp s0) = some (x, e', H') ∧ post x e' H' := by
  unfold lev
  suffices main : ∀ n s, J s → μ s = n → ∃ x e' H', iterD (keepAt an.head (headId c)) (hp s0).length (ev P an C iterD c ((hp s0).length :: bs)) (st s) (hp s) = some (x, e', H') ∧ post x e' H' from main _ s0 h0 rfl
  intro n
  induction n using Nat.strongRecOn with
  | _ n ih =>
    intro s hs hn
    rw [iterD_eq, hkeep s hs, if_pos ⟨hclo s hs, by rw [hlen s hs]; exact Nat.le_refl _⟩, ← hlen s hs, List.take_length, hlen s hs]
    rcases hround s hs with ⟨s', h1, h2, h3⟩ | h1
    · revert h1
      cases ev P an C iterD c ((hp s0).length :: bs) (st s) (hp s) with
      | none => intro h; exact h.elim
      | some r =>
        obtain ⟨x, e', H'⟩ := r
        intro h1
        cases x with
        | exit i => exact h1.elim
        | ret => exact h1.elim
        | normal =>
          obtain ⟨rfl, h1⟩ := h1
          have h4 := ih (μ s') (hn ▸ h3) s' h2 rfl
          have h5 := hlen s' h2
          have h6 : (hp s0).length ≤ H'.length := by
            rw [← h1, List.length_take] at h5; omega
          have h7 : iterD (keepAt an.head (headId c)) (hp s0).length (ev P an C iterD c ((hp s0).length :: bs)) (st s') H' = iterD (keepAt an.head (headId c)) (hp s0).length (ev P an C iterD c ((hp s0).length :: bs)) (st s') (hp s') := by
            rw [iterD_eq, iterD_eq (H := hp s'), hkeep s' h2, if_pos ⟨hclo s' h2, h6⟩, if_pos ⟨hclo s' h2, by omega⟩, h1]
            congr 2
            rw [← h5, List.take_length]
          simp only [h7]
          exact h4
    · revert h1
      cases ev P an C iterD c ((hp s0).length :: bs) (st s) (hp s) with
      | none => intro h; exact h.elim
      | some r =>
        obtain ⟨x, e', H'⟩ := r
        intro h1
        obtain ⟨h1, h2⟩ := h1
        cases x with
        | normal => exact absurd rfl h1
        | exit i => exact ⟨_, _, _, rfl, h2⟩
        | ret => exact ⟨_, _, _, rfl, h2⟩
/-- The loops of a text, outer ones first. -/
def loops : Code → List Code
  | .seq a b => loops a ++ loops b
  | .cond _ a b => loops a ++ loops b
  | .block _ c => loops c
  | .loop c => c :: loops c
  | _ => []
end Go.VM
