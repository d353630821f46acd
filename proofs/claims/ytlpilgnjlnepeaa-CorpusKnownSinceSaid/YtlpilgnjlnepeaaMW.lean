/-
  The abstract machine, part W.
-/
import Derived.Test.YtlpilgnjlnepeaaMV
import Derived.Test.YtlpilgnjlnepeaaMB
set_option linter.all false
namespace Go.VM
variable {P : Program} {G : GS} {w : World} {St : Sts} {O : Nat → Ow} {bs : List Nat} {K K' : List AO} {E E' : Env} {a : Act}

def VRs (G : GS) (w : World) (St : Sts) (xs : List AV) (vs : Array Value) : Prop := vs.size = xs.length ∧ ∀ (i : Nat) (x : AV) (u : Value), xs[i]? = some x → vs[i]? = some u → VR G w St x u
/-- What a call comes to. -/
def CallPost (G : GS) (w : World) (St : Sts) (O : Nat → Ow) (bs : List Nat) (H' : List AO) (v : AV) : Ending → World → Prop
  | .returned cv, w' => ∃ G' St' O', HI G' w' St' O' bs H' ∧ VR G' w' St' v cv ∧ (∀ es, v = .slc true es → Spare w' St' O' .res es cv) ∧ Step O w St O' w' St' ∧ GLe G G'
  | _, _ => False
def Entered (P : Program) (f : FuncId) : Prop := ∃ fn, P.funcs[f]? = some fn ∧ fn.body.isNone = false ∧ fn.name ≠ "runtime.NumGoroutine"
def Ow.isOut : Ow → Prop
  | .tmp _ | .res => True
  | _ => False
def SimC (P : Program) (C : CallF) : Prop :=
  ∀ f args bs H v H', C f args bs H = some (v, H') → ∀ G w St O vals, HI G w St O bs H → (∀ b ∈ bs, b ≤ H.length) → (∀ b, ¬ (O b).isOut) → VRs G w St args vals →
    Entered P f ∧ H'.length = H.length ∧ Calls P f vals w (CallPost G w St O bs H' v)
def Ow.hide : Ow → Ow
  | .obj i => .obj i
  | .cell i j => .cell i j
  | _ => .no
theorem Ow.hide_out (p : Ow) : ¬ p.hide.isOut := by cases p <;> exact fun h => h
theorem Ow.hide_heap {p : Ow} (h : p.heap) : p.hide = p := by cases p <;> first | rfl | exact h.elim
theorem Ow.hide_no {p : Ow} (h : p.hide ≠ .no) : p ≠ .no := by intro e; subst e; exact h rfl
theorem Ow.out_hide {p : Ow} (h : p.isOut) : p.hide = .no := by cases p <;> first | rfl | exact h.elim
/-- Whose the blocks are behind a call. -/
def merge (O O' : Nat → Ow) (d : Ow) : Nat → Ow := fun b =>
  match O b with
  | .tmp t => .tmp t
  | .res => .res
  | _ => (match O' b with | .res => d | .tmp _ => .no | x => x)
theorem HI.hidden (h : HI G w St O bs K) : HI G w St (fun b => (O b).hide) bs K :=
  h.keep (GSub.refl G) h.gst (Stab.refl w St) (fun _ _ h => h) (fun b hb => ⟨Ow.hide_heap hb, rfl, fun _ h => h⟩) (fun b hb => h.low b (Ow.hide_no hb)) h.stl
theorem merge_out {O' : Nat → Ow} {d : Ow} {b : Nat} (h : (O b).isOut) : merge O O' d b = O b := by
  unfold merge
  cases hb : O b <;> first | rfl | (rw [hb] at h; exact h.elim)
theorem merge_in {O' : Nat → Ow} {d : Ow} {b : Nat} (h : ¬ (O b).isOut) : merge O O' d b = (match O' b with | .res => d | .tmp _ => .no | x => x) := by
  unfold merge
  cases hb : O b <;> first | rfl | (rw [hb] at h; exact absurd trivial h)
section
variable {G' : GS} {w' : World} {St' : Sts} {O' : Nat → Ow} {d : Ow}
/-- A block that is hidden from the callee is as it was. -/
theorem hidden_kept (hH : HI G w St O bs K) (hs : Step (fun b => (O b).hide) w St O' w' St') {b : Nat} (h : (O b).isOut) : O' b = .no ∧ w'.heap[b]? = w.heap[b]? ∧ ∀ o, St' b o → St b o := by
  have hne : O b ≠ .no := by intro e; rw [e] at h; exact h
  have hlt := hH.low b hne
  have hh := Ow.out_hide h
  refine ⟨?_, hs.old b hlt hh, fun o ho => ?_⟩
  · by_cases hn : O' b = .no
    · exact hn
    · rcases hs.own b hn with h1 | h1
      · exact absurd hh h1
      · omega
  · rcases hs.new b o ho with h1 | h1 | h1
    · exact h1
    · exact absurd hh h1
    · omega
theorem merge_step (hH : HI G w St O bs K) (hs : Step (fun b => (O b).hide) w St O' w' St') : Step O w St (merge O O' d) w' St' where
  os := hs.os
  tape := hs.tape
  output := hs.output
  size := hs.size
  old := fun b hb h0 => hs.old b hb (by show (O b).hide = .no; rw [h0]; rfl)
  stb := hs.stb
  mono := hs.mono
  new := fun b o h => by
    rcases hs.new b o h with h1 | h1 | h1
    · exact .inl h1
    · exact .inr (.inl (Ow.hide_no h1))
    · exact .inr (.inr h1)
  own := fun b hb => by
    by_cases ho : (O b).isOut
    · left; intro e; rw [e] at ho; exact ho
    · rw [merge_in ho] at hb
      have : O' b ≠ .no := by intro e; rw [e] at hb; exact hb rfl
      rcases hs.own b this with h1 | h1
      · exact .inl (Ow.hide_no h1)
      · exact .inr h1
theorem merge_heap (hH : HI G w St O bs K) (hs : Step (fun b => (O b).hide) w St O' w' St') (h' : HI G' w' St' O' bs K') : HI G' w' St' (merge O O' d) bs K' := by
  refine h'.keep (GSub.refl G') h'.gst (Stab.refl w' St') (fun _ _ h => h) (fun b hb => ⟨?_, rfl, fun _ h => h⟩) (fun b hb => ?_) h'.stl
  · by_cases ho : (O b).isOut
    · rw [(hidden_kept hH hs ho).1] at hb; exact hb.elim
    · rw [merge_in ho]
      cases hp : O' b <;> first | rfl | (rw [hp] at hb; exact hb.elim)
  · by_cases ho : (O b).isOut
    · have : O b ≠ .no := by intro e; rw [e] at ho; exact ho
      exact Nat.lt_of_lt_of_le (hH.low b this) hs.size
    · rw [merge_in ho] at hb
      exact h'.low b (by intro e; rw [e] at hb; exact hb rfl)
theorem merge_env {dst : Option Tmp} {v : AV} {cv : Value} (hH : HI G w St O bs K) (hE : EI G w St O E a.tmps) (hs : Step (fun b => (O b).hide) w St O' w' St') (hG : GLe G G') (hv : VR G' w' St' v cv)
    (hsp : ∀ es, v = .slc true es → Spare w' St' O' .res es cv) (ht : ∀ t, dst = some t → t < a.tmps.size) : EI G' w' St' (merge O O' (dtag dst)) (putD E dst v) (a.put dst cv).tmps := by
  refine hE.keepDst hG hs.stb hs.mono (fun b hb hn => ?_) hv (fun es he => (hsp es he).keep fun b hb => ⟨?_, rfl, fun _ h => h⟩) ht
  · have ho : (O b).isOut := by cases hp : O b <;> first | trivial | (rw [hp] at hb; exact hb.elim)
    obtain ⟨_, h2, h3⟩ := hidden_kept hH hs ho
    exact ⟨merge_out ho, h2, h3⟩
  · by_cases ho : (O b).isOut
    · rw [(hidden_kept hH hs ho).1] at hb; cases hb
    · rw [merge_in ho, hb]
end
theorem run_callFunc {f : FuncId} {args : Array Value} (h : Entered P f) : (callFunc f args).run P w = .ok (.enter f args) w := by
  obtain ⟨fn, h1, h2, h3⟩ := h
  have h2' : fn.body ≠ none := by intro e; rw [e] at h2; cases h2
  simp [callFunc, h1, h2', h3]
theorem call_req {an : Ann} {nid : Nat} {d : Option Tmp} {c : Call} {ins : List AV} {f : FuncId} {args : List AV} (hq : req P an nid d (.call c) ins = some (.call f args)) :
    ∃ x fst xs cap, c.callee = .value x ∧ ins = .func f fst cap :: xs ∧ args = fst ++ xs ++ cap := by
  obtain ⟨callee, as, ats⟩ := c
  simp only [req, reqCall] at hq
  split at hq
  · (repeat' split at hq) <;> simp at hq
  · (repeat' split at hq) <;> simp at hq
  · split at hq
    · rename_i x _ g fst cap xs
      injection hq with hq; injection hq with h1 h2
      subst h1
      exact ⟨x, fst, xs, cap, rfl, rfl, h2.symm⟩
    · cases hq
  · cases hq
theorem VRs.append {xs ys : List AV} {us vs : Array Value} (h : VRs G w St xs us) (k : VRs G w St ys vs) : VRs G w St (xs ++ ys) (us ++ vs) := by
  refine ⟨by simp [h.1, k.1], fun i x u hx hu => ?_⟩
  rcases Nat.lt_or_ge i xs.length with hi | hi
  · rw [List.getElem?_append_left hi] at hx
    rw [Array.getElem?_append_left (by rw [h.1]; exact hi)] at hu
    exact h.2 i x u hx hu
  · rw [List.getElem?_append_right hi] at hx
    rw [Array.getElem?_append_right (by rw [h.1]; exact hi), h.1] at hu
    exact k.2 _ x u hx hu
theorem gives_call {an : Ann} {d : Option Tmp} {c : Call} (h : c.callee ≠ .builtin .append) : gives an d (.call c) E = E := gives_none fun t => by
  obtain ⟨callee, as, ats⟩ := c
  simp only [hands]
  split
  · exact absurd rfl h
  · rfl
/-- A call: what its callee is handed, and how it is run. -/
theorem call_vals {an : Ann} {nid : Nat} {o : Oper} {c : Call} {f : FuncId} {args : List AV} (hop : o.op = .call c) (hE : EI G w St O E a.tmps)
    (hq : req P an nid o.dst o.op (o.op.operands.toList.map (inOf an o.dst o.op E)) = some (.call f args)) :
    ∃ vals : Array Value, VRs G w St args vals ∧ c.callee ≠ .builtin .append ∧ (Entered P f → (execOp a.eval o).run P w = .ok (.enter f vals) w) := by
  have hq' := hq
  rw [hop] at hq'
  obtain ⟨x, fst, xs, cap, hc, hin, rfl⟩ := call_req hq'
  obtain ⟨callee, as, ats⟩ := c
  simp only at hc
  subst hc
  have hops : (Op.call ⟨.value x, as, ats⟩).operands.toList = x :: as.toList := by simp [Op.operands, Call.operands]
  rw [hops] at hin
  simp only [List.map_cons, List.cons.injEq] at hin
  have hx := inOf_VR hE an o.dst (.call ⟨.value x, as, ats⟩) x
  rw [hin.1] at hx
  cases hxe : a.eval x with
  | func fn us vs =>
    rw [hxe] at hx
    cases hx with
    | func g xs' ys us vs h1 h2 h3 h4 =>
      have ha : VRs G w St xs (as.map a.eval) := by
        refine ⟨by rw [← hin.2]; simp, fun i y u hy hu => ?_⟩
        rw [← hin.2, List.getElem?_map, Array.getElem?_toList] at hy
        rw [Array.getElem?_map] at hu
        cases hai : as[i]? with
        | none => simp [hai] at hy
        | some z => simp [hai] at hy hu; subst hy hu; exact inOf_VR hE an o.dst _ z
      refine ⟨us ++ as.map a.eval ++ vs, (VRs.append (VRs.append ⟨h1, h3⟩ ha) ⟨h2, h4⟩), by simp, fun hent => ?_⟩
      have := fun args => run_callFunc (P := P) (w := w) (f := f) (args := args) hent
      unfold execOp
      simp [hop, resolve, Deferred.ofValue, hxe, invoke, this]
  | _ => rw [hxe] at hx; cases hx
theorem wp_call {C : CallF} {an : Ann} {nid : Nat} {o : Oper} {c : Call} {f : FuncId} {args : List AV} {v : AV} {next : Act → World → Prop} {Q : Exit → Act → World → Prop}
    (hS : SimC P C) (hop : o.op = .call c) (hH : HI G w St O bs K) (hbl : ∀ b ∈ bs, b ≤ K.length) (hE : EI G w St O E a.tmps) (ht : ∀ t, o.dst = some t → t < a.tmps.size)
    (hq : req P an nid o.dst o.op (o.op.operands.toList.map (inOf an o.dst o.op E)) = some (.call f args)) (hC : C f args bs K = some (v, K'))
    (hK : Goes G w St O bs K' (putD (gives an o.dst o.op E) o.dst (tidy o.op v)) a o.dst next) : o.wp P a w next Q := by
  obtain ⟨vals, h1, h2, h3⟩ := call_vals (w := w) hop hE hq
  obtain ⟨s1, s2, s3⟩ := hS f args bs K v K' hC G w St _ vals hH.hidden hbl (fun b => Ow.hide_out _) h1
  have htd : tidy o.op v = v := by simp [tidy, flagOp, hop]
  rw [htd, hop, gives_call h2] at hK
  unfold Oper.wp
  rw [h3 s1, Oper.upon_enter]
  refine s3.mono fun e w' he => ?_
  cases e with
  | returned cv =>
    obtain ⟨G', St', O', q1, q2, q3, q4, q5⟩ := he
    exact hK cv w' G' St' _ (merge_heap hH q4 q1) (merge_env hH hE q4 q5 q2 q3 ht) (merge_step hH q4) q5
  | panicked _ => exact he.elim
  | outgrown => exact he.elim

/-! ### all operations -/
inductive Met (C : CallF) (bs : List Nat) (nid : Nat) (K : List AO) : Req → AV → List AO → Prop where
  | val (v : AV) : Met C bs nid K (.val v) v K
  | new (o : AO) (v : AV) (K' : List AO) (h : Grows K nid o K') : Met C bs nid K (.new o v) v K'
  | new2 (o o' : AO) (v : AV) (K1 K' : List AO) (h : Grows K nid o K1) (h' : Grows K1 (nid + 1) o' K') : Met C bs nid K (.new2 o o' v) v K'
  | upd (id : Nat) (wr : Bool) (news : List AV) (k : AO → Option (AV × AO)) (o o' : AO) (v : AV) (hid : K[id]? = some o) (hk : k o = some (v, o')) (hp : wr = true → okPut bs id news = true) : Met C bs nid K (.upd id wr news k) v (if wr then K.set id o' else K)
  | call (f : FuncId) (args : List AV) (v : AV) (K' : List AO) (h : C f args bs K = some (v, K')) : Met C bs nid K (.call f args) v K'
theorem wp_met {C : CallF} {an : Ann} {nid : Nat} {o : Oper} {r : Req} {v : AV} {next : Act → World → Prop} {Q : Exit → Act → World → Prop}
    (hS : SimC P C) (hH : HI G w St O bs K) (hbl : ∀ b ∈ bs, b ≤ K.length) (hE : EI G w St O E a.tmps) (ht : ∀ t, o.dst = some t → t < a.tmps.size)
    (hb : ∀ b ∈ bs, b ≤ nid) (hn : 0 < newsOf an o → G nid = none) (hn' : 1 < newsOf an o → G (nid + 1) = none)
    (hq : req P an nid o.dst o.op (o.op.operands.toList.map (inOf an o.dst o.op E)) = some r) (hm : Met C bs nid K r v K')
    (hK : Goes G w St O bs K' (putD (gives an o.dst o.op E) o.dst (tidy o.op v)) a o.dst next) : o.wp P a w next Q := by
  cases hm with
  | val v =>
    by_cases hp : plainOp o.op = true
    · exact wp_plain hH hE hq hp ht hK
    · cases hop : o.op with
      | buildSlice t n ps => exact wp_build_val hop hH hE ht hq hK
      | call c =>
        obtain ⟨callee, as, ats⟩ := c
        rw [hop] at hp
        cases callee with
        | builtin b => cases b <;> first | exact wp_append_val hop hH hE ht hq hK | exact absurd rfl hp
        | _ => exact absurd rfl hp
      | _ => rw [hop] at hp; exact absurd rfl hp
  | new obj v K' h =>
    have hq' := hq
    cases hop : o.op with
    | alloc t =>
      refine wp_new hH hE ht (by rw [hop]; rfl) hq h (hn ?_) hb hK
      unfold newsOf; rw [hop]; simp only; split <;> omega
    | box t x => exact wp_new hH hE ht (by rw [hop]; rfl) hq h (hn (by unfold newsOf; rw [hop]; simp)) hb hK
    | makeMap t x => exact wp_new hH hE ht (by rw [hop]; rfl) hq h (hn (by unfold newsOf; rw [hop]; simp)) hb hK
    | buildSlice t n ps =>
      refine wp_build_new hop hH hE ht hq h (hn ?_) hb hK
      rw [hop] at hq'
      obtain ⟨e, z, es, _, _, _, _, _, _, hr⟩ := build_req hq'
      split at hr
      · rename_i hm; unfold newsOf; rw [hop]; simp [hm]
      · cases hr
    | move x =>
      refine wp_move_new (.inl hop) hH hE ht hq h (hn ?_) hb hK
      rw [hop] at hq'
      simp only [req, Op.operands, List.map_cons, List.map_nil] at hq'
      split at hq'
      · rename_i hm; unfold newsOf; rw [hop]; simp only [hm, if_true]; omega
      · simp at hq'
    | assign x =>
      refine wp_move_new (.inr hop) hH hE ht hq h (hn ?_) hb hK
      rw [hop] at hq'
      simp only [req, Op.operands, List.map_cons, List.map_nil] at hq'
      split at hq'
      · rename_i hm; unfold newsOf; rw [hop]; simp only [hm, if_true]; omega
      · simp at hq'
    | call c =>
      rw [hop] at hq'
      obtain ⟨callee, as, ats⟩ := c
      simp only [req, reqCall] at hq'
      (repeat' split at hq') <;> simp at hq'
    | _ =>
      rw [hop] at hq'
      simp only [req] at hq'
      (repeat' split at hq') <;> simp at hq'
  | new2 o1 o2 v K1 K' h h' =>
    have hq' := hq
    cases hop : o.op with
    | alloc t =>
      have hm : Ann.mem an.ar o.dst = true := by
        rw [hop] at hq'
        simp only [req] at hq'
        split at hq'
        · rename_i hm; exact hm
        · (repeat' split at hq') <;> simp at hq'
      have h2 : newsOf an o = 2 := by unfold newsOf; rw [hop]; simp [hm]
      exact wp_alloc_new2 hop hH hE ht hq h h' (hn (by omega)) (hn' (by omega)) hb hK
    | buildSlice t n ps =>
      rw [hop] at hq'
      obtain ⟨e, z, es, _, _, _, _, _, _, hr⟩ := build_req hq'
      split at hr <;> cases hr
    | call c =>
      rw [hop] at hq'
      obtain ⟨callee, as, ats⟩ := c
      simp only [req, reqCall] at hq'
      (repeat' split at hq') <;> simp at hq'
    | _ =>
      rw [hop] at hq'
      simp only [req] at hq'
      (repeat' split at hq') <;> simp at hq'
  | upd id wr news k o0 o1 v hid hk hp =>
    have hq' := hq
    cases hop : o.op with
    | load t x => exact wp_load hop hH hE ht hq hid hk hK
    | store t x y =>
      have hwr : wr = true := by
        rw [hop] at hq'
        simp only [req] at hq'
        (repeat' split at hq') <;> simp at hq' <;> exact hq'.2.1
      exact wp_store hop hH hE ht hq hid hk (hp hwr) hK
    | lookup t x i ok => exact wp_maplook hop hH hE ht hq hid hk hK
    | mapUpdate t m kk x =>
      have hwr : wr = true := by
        rw [hop] at hq'
        simp only [req] at hq'
        (repeat' split at hq') <;> simp at hq' <;> exact hq'.2.1
      exact wp_mapput (.inl hop) hH hE ht hq hid hk (hp hwr) hK
    | insert t m kk x =>
      have hwr : wr = true := by
        rw [hop] at hq'
        simp only [req] at hq'
        (repeat' split at hq') <;> simp at hq' <;> exact hq'.2.1
      exact wp_mapput (.inr hop) hH hE ht hq hid hk (hp hwr) hK
    | nilCheck x => exact wp_nil_upd hop hH hE ht hq hid hk hK
    | fieldAddr t x f => exact wp_field_upd hop hH hE ht hq hid hk hK
    | indexAddr t x y => exact wp_index_upd hop hH hE ht hq hid hk hK
    | slice t x lo hi mx => exact wp_slice_upd hop hH hE ht hq hid hk hK
    | call c =>
      obtain ⟨callee, as, ats⟩ := c
      by_cases hap : callee = .builtin .append
      · subst hap
        exact wp_append_upd hop hH hE ht hq hid hk hp hK
      · exact wp_maplen hop hap hH hE ht hq hid hk hK
    | buildSlice t n ps =>
      rw [hop] at hq'
      obtain ⟨e, z, es, _, _, _, _, _, _, hr⟩ := build_req hq'
      split at hr <;> cases hr
    | _ =>
      rw [hop] at hq'
      simp only [req] at hq'
      (repeat' split at hq') <;> simp at hq'
  | call f args v K' h =>
    have hq' := hq
    cases hop : o.op with
    | call c => exact wp_call hS hop hH hbl hE ht hq h hK
    | buildSlice t n ps =>
      rw [hop] at hq'
      obtain ⟨e, z, es, _, _, _, _, _, _, hr⟩ := build_req hq'
      split at hr <;> cases hr
    | _ =>
      rw [hop] at hq'
      simp only [req] at hq'
      (repeat' split at hq') <;> simp at hq'
end Go.VM
