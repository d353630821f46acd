/-
  The abstract machine, part Q.
-/
import Derived.Test.YtlpilgnjlnepeaaMP
set_option linter.all false
namespace Go.VM
variable {P : Program} {G : GS} {w : World} {St : Sts} {O : Nat → Ow} {bs : List Nat} {K K' : List AO} {E E' : Env} {a : Act} {an : Ann} {C : CallF} {ops : Array Oper} {b : Nat}
open Classical

theorem footsOk_cons {i : Nat} {f : Foot} {r : List (Nat × Foot)} : footsOk ops b ((i, f) :: r) = true ↔ (∀ x ∈ r, apartF b f x.2 = true ∨ prec ops 4 x.1 i = true) ∧ footsOk ops b r = true := by
  simp [footsOk, List.all_eq_true]
/-- An operation that stands behind none of those ahead of it goes first. -/
theorem pull {x : NOp} {B : List NOp} : ∀ (A : List NOp) {E : Env} {K : List AO} {E' : Env} {K' : List AO} {fs : List (Nat × Foot)}, evOpsD P an C bs ops b (A ++ x :: B) E K = some (E', K', fs) → footsOk ops b fs = true →
    (∀ y ∈ A, freeOf an ops y.1 x.1 = true ∧ prec ops 4 x.2.1 y.2.1 = false) →
    ∃ E1 K1 f E2 fs', stepD P an C bs ops b x E K = some (E1, K1, f) ∧ evOpsD P an C bs ops b (A ++ B) E1 K1 = some (E2, K', fs') ∧ eqE E' E2 ∧ footsOk ops b fs' = true ∧ (x.2.1, f) ∈ fs ∧ ∀ z ∈ fs', z ∈ fs
  | [], E, K, E', K', fs, h, hf, _ => by
    rw [List.nil_append, evOpsD_cons] at h
    split at h
    · rename_i Ex Kx fx hx
      split at h
      · rename_i e2 K2 fs2 h2
        simp only [Option.some.injEq, Prod.mk.injEq] at h
        obtain ⟨rfl, rfl, rfl⟩ := h
        exact ⟨Ex, Kx, fx, _, _, hx, h2, fun _ => rfl, (footsOk_cons.1 hf).2, List.mem_cons_self, fun z hz => List.mem_cons_of_mem _ hz⟩
      · cases h
    · cases h
  | y :: A, E, K, E', K', fs, h, hf, hA => by
    rw [List.cons_append, evOpsD_cons] at h
    split at h
    · rename_i Ey Ky fy hy
      split at h
      · rename_i e2 K2 fs2 h2
        simp only [Option.some.injEq, Prod.mk.injEq] at h
        obtain ⟨rfl, rfl, rfl⟩ := h
        obtain ⟨hf1, hf2⟩ := footsOk_cons.1 hf
        obtain ⟨E1, K1, f, E3, fs3, p1, p2, p3, p4, p5, p6⟩ := pull A h2 hf2 fun z hz => hA z (List.mem_cons_of_mem _ hz)
        obtain ⟨hfree, hprec⟩ := hA y List.mem_cons_self
        have hap : apartF b fy f = true := by
          rcases hf1 _ p5 with h1 | h1
          · exact h1
          · rw [hprec] at h1; cases h1
        obtain ⟨E1', K1', E2', q1, q2, q3⟩ := stepD_comm hy p1 hfree hap
        obtain ⟨E4, r1, r2⟩ := evOpsD_eqE (A ++ B) p2 q3
        refine ⟨E1', K1', f, E4, (y.2.1, fy) :: fs3, q1, ?_, fun t => (p3 t).trans (r2 t), footsOk_cons.2 ⟨fun z hz => hf1 z (p6 z hz), p4⟩, List.mem_cons_of_mem _ p5, fun z hz => ?_⟩
        · rw [List.cons_append, evOpsD_cons, q2]
          simp only [r1]
        · rcases List.mem_cons.1 hz with h | h
          · rw [h]; exact List.mem_cons_self
          · exact List.mem_cons_of_mem _ (p6 z h)
      · cases h
    · cases h
/-- What the static check says of the operations. -/
def Rel (an : Ann) (ops : Array Oper) (x y : NOp) : Prop := x.2.1 < y.2.1 ∧ x.2.2 + newsOf an x.1 ≤ y.2.2 ∧ (freeOf an ops x.1 y.1 = true ∨ prec ops 4 y.2.1 x.2.1 = true)
theorem numbered_mem : ∀ {l : List Oper} {i rk : Nat} {x : NOp}, x ∈ numbered an l i rk → i ≤ x.2.1 ∧ l[x.2.1 - i]? = some x.1 ∧ rk ≤ x.2.2 ∧ x.2.2 + newsOf an x.1 ≤ rk + newsIn an l
  | [], i, rk, x, h => by simp [numbered] at h
  | o :: l, i, rk, x, h => by
    simp only [numbered, List.mem_cons] at h
    rcases h with rfl | h
    · simp [newsIn]
    · obtain ⟨h1, h2, h3, h4⟩ := numbered_mem h
      refine ⟨by omega, ?_, by omega, by simp only [newsIn]; omega⟩
      rw [show x.2.1 - i = (x.2.1 - (i + 1)) + 1 by omega]
      simpa using h2
theorem numbered_all : ∀ {l : List Oper} {i rk j : Nat} {o : Oper}, l[j]? = some o → ∃ x ∈ numbered an l i rk, x.2.1 = i + j ∧ x.1 = o
  | [], i, rk, j, o, h => by simp at h
  | o' :: l, i, rk, 0, o, h => by
    simp only [List.getElem?_cons_zero, Option.some.injEq] at h
    exact ⟨(o', i, rk), by simp [numbered], rfl, h⟩
  | o' :: l, i, rk, j + 1, o, h => by
    simp only [List.getElem?_cons_succ] at h
    obtain ⟨x, h1, h2, h3⟩ := numbered_all (i := i + 1) (rk := rk + newsOf an o') h
    exact ⟨x, by simp only [numbered]; exact List.mem_cons_of_mem _ h1, by omega, h3⟩
theorem numbered_len : ∀ (l : List Oper) (i rk : Nat), (numbered an l i rk).length = l.length
  | [], _, _ => rfl
  | o :: l, i, rk => by simp [numbered, numbered_len l]
theorem numbered_pair (hp : ∀ i j x y, i < j → ops[i]? = some x → ops[j]? = some y → freeOf an ops x y = true ∨ prec ops 4 j i = true) : ∀ (l : List Oper) (i rk : Nat), (∀ k o, l[k]? = some o → ops[i + k]? = some o) → (numbered an l i rk).Pairwise (Rel an ops)
  | [], _, _, _ => by simp [numbered]
  | o :: l, i, rk, h => by
    simp only [numbered, List.pairwise_cons]
    refine ⟨fun y hy => ?_, numbered_pair hp l (i + 1) _ fun k o hk => by rw [show i + 1 + k = i + (k + 1) by omega]; exact h (k + 1) o (by simpa using hk)⟩
    obtain ⟨h1, h2, h3, h4⟩ := numbered_mem hy
    refine ⟨by show i < y.2.1; omega, h3, hp i y.2.1 o y.1 (by omega) (by simpa using h 0 o rfl) ?_⟩
    have := h (y.2.1 - i) y.1 (by rw [show y.2.1 - i = (y.2.1 - (i + 1)) + 1 by omega]; simpa using h2)
    rwa [show i + (y.2.1 - i) = y.2.1 by omega] at this
theorem drawOk_spec (h : drawOk an ops = true) : (∀ i j x y, i < j → ops[i]? = some x → ops[j]? = some y → freeOf an ops x y = true ∨ prec ops 4 j i = true) ∧ ∀ j o, ops[j]? = some o → ∀ e ∈ o.after, Region.binds .any e = true → e.on < j := by
  unfold drawOk at h
  simp only [Bool.and_eq_true] at h
  obtain ⟨h1, h2⟩ := h
  refine ⟨fun i j x y hij hx hy => ?_, fun j o ho e he hb => ?_⟩
  · have hj : j < ops.size := (Array.getElem?_eq_some_iff.1 hy).1
    have := List.all_eq_true.1 (List.all_eq_true.1 h1 j (List.mem_range.2 hj)) i (List.mem_range.2 hij)
    rw [hx, hy] at this
    simpa using this
  · have hj : j < ops.size := (Array.getElem?_eq_some_iff.1 ho).1
    have := List.all_eq_true.1 h2 j (List.mem_range.2 hj)
    rw [ho] at this
    have := List.all_eq_true.1 this e (by simpa using he)
    simpa [hb] using this
theorem prec_listed {listed : Array Bool} (hcl : ∀ k, listed.getD k false = true → ∀ o, ops[k]? = some o → ∀ e ∈ o.after, Region.binds .any e = true → listed.getD e.on false = true) :
    ∀ (n j i : Nat), prec ops n j i = true → (∀ o, ops[j]? = some o → ∀ e ∈ o.after, Region.binds .any e = true → listed.getD e.on false = true) → listed.getD i false = true
  | 0, _, _, h, _ => by cases h
  | n + 1, j, i, h, hj => by
    simp only [prec] at h
    split at h
    · rename_i o ho
      simp only [Bool.or_eq_true, List.any_eq_true, Bool.and_eq_true, beq_iff_eq] at h
      rcases h with ⟨e, he, hb, hi⟩ | ⟨e, he, ⟨hb, _⟩, hp⟩
      · rw [← hi]; exact hj o ho e (by simpa using he) hb
      · exact prec_listed hcl n e.on i hp fun o' ho' e' he' hb' => hcl e.on (hj o ho e (by simpa using he) hb) o' ho' e' he' hb'
    · cases h
theorem req_upd_dead {nid : Nat} {d : Option Tmp} {o : Op} {ins : List AV} {id : Nat} {wr : Bool} {news : List AV} {k : AO → Option (AV × AO)} (h : req P an nid d o ins = some (.upd id wr news k)) : k .dead = none := by
  cases o with
  | call c =>
    obtain ⟨callee, args, ats⟩ := c
    simp only [req, reqCall] at h
    (repeat' split at h) <;> simp at h <;> (obtain ⟨_, _, _, rfl⟩ := h; rfl)
  | _ =>
    simp only [req] at h
    (repeat' split at h) <;> simp at h <;> (obtain ⟨_, _, _, rfl⟩ := h; rfl)
theorem req_new {nid : Nat} {o : Oper} {ins : List AV} {ob : AO} {v : AV} (h : req P an nid o.dst o.op ins = some (.new ob v)) : 0 < newsOf an o := by
  unfold newsOf
  cases hop : o.op with
  | call c =>
    rw [hop] at h
    obtain ⟨callee, args, ats⟩ := c
    simp only [req, reqCall] at h
    (repeat' split at h) <;> simp at h
  | alloc t => simp only; split <;> omega
  | box t x => simp
  | makeMap t x => simp
  | buildSlice t n ps =>
    rw [hop] at h
    simp only [req] at h
    (repeat' split at h) <;> simp at h
    simp only [*, if_true]; omega
  | move x =>
    rw [hop] at h
    simp only [req] at h
    (repeat' split at h) <;> simp at h
    simp only [*, if_true]; omega
  | assign x =>
    rw [hop] at h
    simp only [req] at h
    (repeat' split at h) <;> simp at h
    simp only [*, if_true]; omega
  | _ =>
    rw [hop] at h
    simp only [req] at h
    (repeat' split at h) <;> simp at h
theorem req_new2 {nid : Nat} {o : Oper} {ins : List AV} {ob ob' : AO} {v : AV} (h : req P an nid o.dst o.op ins = some (.new2 ob ob' v)) : newsOf an o = 2 := by
  unfold newsOf
  cases hop : o.op with
  | call c =>
    rw [hop] at h
    obtain ⟨callee, args, ats⟩ := c
    simp only [req, reqCall] at h
    (repeat' split at h) <;> simp at h
  | alloc t =>
    rw [hop] at h
    simp only [req] at h
    (repeat' split at h) <;> simp at h
    simp only [*, if_true]
  | _ =>
    rw [hop] at h
    simp only [req] at h
    (repeat' split at h) <;> simp at h
end Go.VM
