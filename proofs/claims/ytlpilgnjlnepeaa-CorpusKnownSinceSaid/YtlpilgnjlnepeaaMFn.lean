/-
  The abstract machine, part Fn.
-/
import Derived.Test.YtlpilgnjlnepeaaMZ
set_option linter.all false
namespace Go.VM
variable {P : Program} {G : GS} {w : World} {St : Sts} {O : Nat → Ow} {bs : List Nat} {K K' : List AO} {E E' : Env} {a : Act} {an : Ann} {C : CallF}

def resSem (tmps : Array Value) : ResultVar → Sem Value
  | .tmp t => pure (tmps.getD t undef)
  | .cell a t => do loadVar t (← asAddr (tmps.getD a undef))
theorem run_mapL {f : ResultVar → Sem Value} : ∀ {l : List ResultVar} {us : List Value}, us.length = l.length → (∀ (i : Nat) (r : ResultVar) (u : Value), l[i]? = some r → us[i]? = some u → (f r).run P w = .ok u w) → (l.mapM f).run P w = .ok us w
  | [], [], _, _ => by simp
  | r :: l, u :: us, hl, h => by
    have h0 := h 0 r u rfl rfl
    have ih := run_mapL (l := l) (us := us) (by simpa using hl) fun i r u h1 h2 => h (i + 1) r u (by simpa using h1) (by simpa using h2)
    rw [List.mapM_cons]
    simp [h0, ih]
  | [], _ :: _, hl, _ => by simp at hl
  | _ :: _, [], hl, _ => by simp at hl
def pack : List Value → Value
  | [u] => u
  | us => .tuple us.toArray
theorem results_eq (fn : Func) (tmps : Array Value) {us : List Value} (hl : us.length = fn.results.toList.length) (h : ∀ (i : Nat) (r : ResultVar) (u : Value), fn.results.toList[i]? = some r → us[i]? = some u → (resSem tmps r).run P w = .ok u w) :
    (results fn tmps).run P w = .ok (pack us) w := by
  have hm := run_mapL (P := P) (w := w) hl h
  have hA : (fn.results.mapM (resSem tmps)).run P w = .ok us.toArray w := by
    rw [Array.mapM_eq_mapM_toList]
    simp [hm]
  have hr : results fn tmps = (do let vs ← fn.results.mapM (resSem tmps); pure (if h : vs.size = 1 then vs[0] else .tuple vs)) := by
    unfold results
    congr 1
  rw [hr]
  simp only [Sem.run_bind, hA, Result.andThen_ok]
  clear hA hm hr h hl
  match us with
  | [] => simp [pack]
  | [u] => simp [pack]
  | u :: v :: r => simp [pack]
theorem res_one {n : Nat} {r : ResultVar} {v : AV} {T : Array Value} (hH : HI G w St O bs K) (hE : EI G w St O E T) (h : resOf P n E K r = some v) :
    ∃ cv, (resSem T r).run P w = .ok cv w ∧ VR G w St v cv ∧ ∀ es, v = .slc true es → ∃ p, ((∃ t, p = .tmp t) ∨ ∃ id j, n ≤ id ∧ p = .cell id j) ∧ Spare w St O p es cv := by
  cases r with
  | tmp t =>
    simp only [resOf, Option.some.injEq] at h
    subst h
    exact ⟨T.getD t undef, by simp [resSem], hE.env t, fun es he => ⟨.tmp t, .inl ⟨t, rfl⟩, hE.own t es he⟩⟩
  | cell x t =>
    simp only [resOf] at h
    have hx := hE.env x
    split at h
    · rename_i id off heq
      rw [heq] at hx
      obtain ⟨b, hGb, hρ⟩ := hx.inv_ptr
      split at h
      · rename_i cs hcs
        obtain ⟨b', vals, e, g1, g2, g3, g4, g5, g6⟩ := hH.obj id _ hcs
        rw [hGb] at g1
        injection g1 with g1
        injection g1 with g1
        subst g1
        have hcell : ∀ j, j < cs.length → w.cell? ⟨b, 0 + j, none⟩ = some (vals.getD j undef) ∧ (vals.getD j undef).oneCell' = true := by
          intro j hj
          have hj' : j < vals.size := by rw [g4]; exact hj
          rw [Nat.zero_add, cell_of_row w b j vals e (0, 0) g3]
          exact ⟨get_val hj', (g6 j cs[j] _ (List.getElem?_eq_getElem hj) (get_val hj')).2.1⟩
        have hrel : ∀ (j : Nat) (y : AV), cs[j]? = some y → VR G w St y (vals.getD j undef) := fun j y hy => (g6 j y _ hy (get_val (by rw [g4]; exact lt_of hy))).1
        split at h
        · obtain ⟨cv, h1, h2⟩ := run_loadVar (P := P) (o := 0) h hcell hrel
          rw [Nat.zero_add] at h1
          exact ⟨cv, by simp [resSem, hρ, asAddr, h1], h2, fun es he => absurd he (readCells_flag h es)⟩
        · rename_i hag
          cases hc : cs[off]? with
          | none => simp [hc] at h
          | some c =>
            simp only [hc, Option.map_some, Option.some.injEq] at h
            have hlt := lt_of hc
            have hl : (loadVar t ⟨b, off, none⟩).run P w = .ok (vals.getD off undef) w := by
              unfold loadVar
              rw [Sem.run_bind, run_isAgg hag, Result.andThen_ok, if_neg (by simp)]
              have := (hcell off hlt).1
              rw [Nat.zero_add] at this
              simp [this]
            refine ⟨vals.getD off undef, by simp [resSem, hρ, asAddr, hl], ?_, fun es he => ?_⟩
            · rw [← h]; split
              · exact hrel off c hc
              · exact (hrel off c hc).strip
            · split at h
              · rename_i hle
                rw [h] at hc
                subst he
                exact ⟨.cell id off, .inr ⟨id, off, hle, rfl⟩, (g6 off _ _ hc (get_val (d := undef) (by rw [g4]; exact hlt))).2.2 es rfl⟩
              · rw [← h] at he; exact absurd he (strip_not _ _)
        · cases h
      · cases h
    · rename_i cs off heq
      rw [heq] at hx
      cases hρ : T.getD x undef with
      | pointer pa =>
        rw [hρ] at hx
        cases hx with
        | iptr cs off b o us hl hr =>
          obtain ⟨cv, h1, h2⟩ := run_loadVar (P := P) (o := o) h (fun j hj => (hl j hj).2) hr
          exact ⟨cv, by simp [resSem, hρ, asAddr, h1], h2, fun es he => absurd he (readCells_flag h es)⟩
      | _ => rw [hρ] at hx; cases hx
    · cases h
theorem res_all {n : Nat} {T : Array Value} (hH : HI G w St O bs K) (hE : EI G w St O E T) : ∀ {l : List ResultVar} {vs : List AV}, resAll P n E K l = some vs →
    ∃ us : List Value, us.length = l.length ∧ vs.length = l.length ∧ (∀ (i : Nat) (r : ResultVar) (u : Value), l[i]? = some r → us[i]? = some u → (resSem T r).run P w = .ok u w) ∧ (∀ (i : Nat) (v : AV) (u : Value), vs[i]? = some v → us[i]? = some u → VR G w St v u ∧
      ∀ es, v = .slc true es → ∃ p, ((∃ t, p = .tmp t) ∨ ∃ id j, n ≤ id ∧ p = .cell id j) ∧ Spare w St O p es u)
  | [], vs, h => by
    simp only [resAll, Option.some.injEq] at h
    subst h
    exact ⟨[], rfl, rfl, fun i r u h => by simp at h, fun i v u h => by simp at h⟩
  | r :: l, vs, h => by
    simp only [resAll] at h
    split at h
    · rename_i v vs' h1 h2
      injection h with h
      subst h
      obtain ⟨cv, r1, r2, r3⟩ := res_one hH hE h1
      obtain ⟨us, s1, s2, s3, s4⟩ := res_all hH hE h2
      refine ⟨cv :: us, by simp [s1], by simp [s2], fun i r u hi hu => ?_, fun i v u hi hu => ?_⟩
      · cases i with
        | zero => simp at hi hu; subst hi hu; exact r1
        | succ i => exact s3 i r u (by simpa using hi) (by simpa using hu)
      · cases i with
        | zero => simp at hi hu; subst hi hu; exact ⟨r2, r3⟩
        | succ i => exact s4 i v u (by simpa using hi) (by simpa using hu)
    · cases h
theorem out_of {fn : Func} {n : Nat} {T : Array Value} {v : AV} (hH : HI G w St O bs K) (hE : EI G w St O E T) (h : outOf P fn n E K = some v) :
    ∃ cv, (results fn T).run P w = .ok cv w ∧ VR G w St v cv ∧ ∀ es, v = .slc true es → ∃ p, ((∃ t, p = .tmp t) ∨ ∃ id j, n ≤ id ∧ p = .cell id j) ∧ Spare w St O p es cv := by
  unfold outOf at h
  split at h
  · rename_i v' hv
    injection h with h
    subst h
    obtain ⟨us, h1, h2, h3, h4⟩ := res_all hH hE hv
    have hul : us.length = 1 := by rw [h1, ← h2]; rfl
    obtain ⟨u, rfl⟩ := List.length_eq_one_iff.1 hul
    exact ⟨u, results_eq fn T h1 h3, h4 0 v' u rfl rfl⟩
  · rename_i vs hne hv
    injection h with h
    subst h
    obtain ⟨us, h1, h2, h3, h4⟩ := res_all hH hE hv
    have hr := results_eq (P := P) (w := w) fn T h1 h3
    refine ⟨.tuple us.toArray, ?_, .tup _ _ (by simp [h1, h2]) fun i x u hx hu => ?_, fun es h => by cases h⟩
    · rw [hr]
      match us, h1, h2 with
      | [], _, _ => rfl
      | [u], h1, h2 =>
        exfalso
        have : vs.length = 1 := by rw [h2, ← h1]; rfl
        obtain ⟨v, rfl⟩ := List.length_eq_one_iff.1 this
        exact hne v rfl
      | u :: u' :: r, _, _ => rfl
    · rw [List.getElem?_map] at hx
      cases hc : vs[i]? with
      | none => simp [hc] at hx
      | some c => simp [hc] at hx; subst hx; exact (h4 i c u hc (by simpa using hu)).1.strip
  · cases h
theorem params_get : ∀ (args : List AV) (i t : Nat), (params args i).get t = if i ≤ t then (match args[t - i]? with | some v => v.strip | none => .poison) else .poison
  | [], i, t => by simp [params, Env.get]
  | v :: r, i, t => by
    simp only [params, Env.get]
    by_cases h : i = t
    · subst h; simp
    · rw [if_neg h, params_get r (i + 1) t]
      by_cases h2 : i ≤ t
      · rw [if_pos (by omega), if_pos h2, show t - i = (t - (i + 1)) + 1 by omega]; simp
      · rw [if_neg (by omega), if_neg h2]
theorem EI.params {args : List AV} {vals : Array Value} (m : Nat) (h : VRs G w St args vals) : EI G w St O (VM.params args 0) (vals ++ Array.replicate m undef) := by
  refine ⟨fun t => ?_, fun t es he => ?_⟩
  · rw [params_get, if_pos (Nat.zero_le _), Nat.sub_zero]
    cases ht : args[t]? with
    | none => exact .poison _
    | some v =>
      have hlt : t < vals.size := by rw [h.1]; exact lt_of ht
      have : (vals ++ Array.replicate m undef).getD t undef = vals[t] := by
        rw [Array.getD_eq_getD_getElem?, Array.getElem?_append_left hlt, Array.getElem?_eq_getElem hlt]; rfl
      rw [this]
      exact (h.2 t v vals[t] ht (by simp [hlt])).strip
  · rw [params_get, if_pos (Nat.zero_le _)] at he
    split at he
    · exact absurd he (strip_not _ _)
    · cases he
/-- The right of a result. -/
def endP (n : Nat) (p q : Ow) : Ow := if q = p then .res else endO n q
theorem HI.endP {n : Nat} {p : Ow} (hp : (∃ t, p = .tmp t) ∨ (∃ id j, n ≤ id ∧ p = .cell id j) ∨ p = .res) (h : HI G w St O bs K) (hn : n ≤ K.length) (hb : n ∈ bs) : HI (cutG G (below n)) w (endS O n St) (fun q => VM.endP n p (O q)) bs (K.take n) := by
  have h1 := h.ends hn hb
  have hpn : p ≠ .no := by rcases hp with ⟨t, rfl⟩ | ⟨id, j, _, rfl⟩ | rfl <;> simp
  refine h1.keep (GSub.refl _) h1.gst (Stab.refl w _) (fun _ _ h => h) (fun q hq => ⟨?_, rfl, fun _ h => h⟩) (fun q hq => h.low q ?_) h1.stl
  · show VM.endP n p (O q) = endO n (O q)
    unfold VM.endP
    rw [if_neg]
    intro he
    obtain ⟨id, hlt, hq2⟩ := endO_heap hq
    rw [he] at hq2
    rcases hp with ⟨t, rfl⟩ | ⟨id', j, hle, rfl⟩ | rfl
    · rcases hq2 with h | ⟨_, h⟩ <;> cases h
    · rcases hq2 with h | ⟨_, h⟩
      · cases h
      · injection h with h; omega
    · rcases hq2 with h | ⟨_, h⟩ <;> cases h
  · unfold VM.endP at hq
    split at hq
    · rename_i he; rw [he]; exact hpn
    · exact endO_no hq
theorem Step.endP {n : Nat} {p : Ow} (hp : p ≠ .no) : Step O w St (fun q => VM.endP n p (O q)) w (endS O n St) where
  os := rfl
  tape := rfl
  output := rfl
  size := Nat.le_refl _
  old := fun _ _ _ => rfl
  stb := Stab.refl w St
  mono := fun _ _ h => .inl h
  new := fun b o h => by
    rcases h with h | ⟨i, _, h⟩
    · exact .inl h
    · right; left; rw [h]; simp
  own := fun b hb => by
    left
    unfold VM.endP at hb
    split at hb
    · rename_i he; rw [he]; exact hp
    · exact endO_no hb
/-- A function's body. -/
theorem sim_body {X : Ctx} {N : Nat} (hm : X.P.follows .mixedOrders = true) (hX : ∀ f, X.ok f = true → ∀ fn c, X.P.funcs[f]? = some fn → fn.body = some c → fn.name ≠ "runtime.NumGoroutine" ∧ codeOk (X.an f) fn.ntmps c = true)
    (hS : SimC X.P C) (hL : CLen C) {f : FuncId} {args : List AV} {H H' : List AO} {v : AV} (h : runBody X C (iterN N) f args bs H = some (v, H')) {vals : Array Value} (hH : HI G w St O bs H) (hb : ∀ b ∈ bs, b ≤ H.length) (ho : ∀ b, ¬ (O b).isOut) (hv : VRs G w St args vals) :
    Entered X.P f ∧ H'.length = H.length ∧ Calls X.P f vals w (CallPost G w St O bs H' v) := by
  unfold runBody at h
  split at h
  · rename_i fn hfn
    split at h
    · rename_i c hbody
      split at h
      · rename_i hc
        obtain ⟨hname, hcode⟩ := hX f hc.2 fn c hfn hbody
        have hent : Entered X.P f := ⟨fn, hfn, by rw [hbody]; rfl, hname⟩
        split at h
        · cases h
        · rename_i x e H1 hnx hev
          split at h
          · rename_i vo hout
            simp only at h
            split at h
            · rename_i hcl
              simp only [Option.some.injEq, Prod.mk.injEq] at h
              obtain ⟨rfl, rfl⟩ := h
              refine ⟨hent, by rw [List.length_take]; omega, calls_of_wp hfn hbody ?_⟩
              have hH0 := hH.with_top
              have hE0 := EI.params (O := O) (fn.ntmps - vals.size) hv
              have hsz : (vals ++ Array.replicate (fn.ntmps - vals.size) undef).size = fn.ntmps := by
                have := hv.1; simp; omega
              refine wp_ev (n := fn.ntmps) (N := N) hm hS hL c hcode (H.length :: bs) G w St O H _ _ x e H1 _ (by rw [hsz]; exact Nat.le_refl _) hH0 hE0 (fun b hb' => ?_) hev ?_
              · rcases List.mem_cons.1 hb' with h | h
                · omega
                · exact hb b h
              · intro a' w' G' St' O' f1 f2 f3 f4 f5 f6 f7 f8
                obtain ⟨cv, r1, r2, r3⟩ := out_of f3 f4 hout
                have hgoal : ∃ G2 St2 O2, HI G2 w' St2 O2 bs (H1.take H.length) ∧ VR G2 w' St2 (reifyR H.length H1 vo) cv ∧ (∀ es, reifyR H.length H1 vo = .slc true es → Spare w' St2 O2 .res es cv) ∧ Step O w St O2 w' St2 ∧ GLe G G2 := by
                  have hVR : VR (cutG G' (below H.length)) w' (endS O' H.length St') (reifyR H.length H1 vo) cv := (reifyR_VR f3 r2).cut hcl.1
                  by_cases hfl : ∃ es, vo = .slc true es
                  · obtain ⟨es, rfl⟩ := hfl
                    obtain ⟨p, hp, hsp⟩ := r3 es rfl
                    have hp' : (∃ t, p = .tmp t) ∨ (∃ id j, H.length ≤ id ∧ p = .cell id j) ∨ p = .res := by
                      rcases hp with h | h
                      · exact .inl h
                      · exact .inr (.inl h)
                    have hpn : p ≠ .no := by rcases hp with ⟨t, rfl⟩ | ⟨id, j, _, rfl⟩ <;> simp
                    refine ⟨_, _, _, (f3.endP hp' hcl.2 List.mem_cons_self).weak fun b hb' => List.mem_cons_of_mem _ hb', hVR, fun es' he => ?_, f5.trans (Step.endP hpn), f6.cut hH.gst⟩
                    have := reifyR_flag he
                    injection this with _ this
                    subst this
                    refine hsp.tag fun b hbp => ⟨by show VM.endP _ p (O' b) = .res; unfold VM.endP; rw [if_pos hbp], fun o hso => ?_⟩
                    rcases hso with hso | ⟨i, _, hso⟩
                    · exact hso
                    · rw [hbp] at hso
                      rcases hp with ⟨t, rfl⟩ | ⟨id, j, _, rfl⟩ <;> cases hso
                  · exact ⟨_, _, _, (f3.endP (p := .res) (.inr (.inr rfl)) hcl.2 List.mem_cons_self).weak fun b hb' => List.mem_cons_of_mem _ hb', hVR, fun es' he => absurd ⟨es', reifyR_flag he⟩ hfl, f5.trans (Step.endP (by simp)), f6.cut hH.gst⟩
                cases x with
                | normal => exact ⟨f2, cv, r1, hgoal⟩
                | ret => exact ⟨f2, cv, r1, hgoal⟩
                | exit id => exact (hnx id rfl).elim
            · cases h
          · cases h
        · cases h
      · cases h
    · cases h
  · cases h
/-- What is asked of a function that is answered by a rule of its own. -/
def PrimOK (P : Program) (f : FuncId) (p : List AV → List Nat → List AO → Option (AV × List AO)) : Prop :=
  ∀ args bs H v H', p args bs H = some (v, H') → H'.length = H.length ∧ ∀ G w St O vals, HI G w St O bs H → (∀ b ∈ bs, b ≤ H.length) → (∀ b, ¬ (O b).isOut) → VRs G w St args vals →
    Entered P f ∧ Calls P f vals w (CallPost G w St O bs H' v)
theorem body_len {X : Ctx} {it : LoopF} {f : FuncId} {args : List AV} {H H' : List AO} {v : AV} (h : runBody X C it f args bs H = some (v, H')) : H'.length = H.length := by
  unfold runBody at h
  split at h
  · split at h
    · split at h
      · split at h
        · cases h
        · split at h
          · simp only at h
            split at h
            · rename_i hcl
              simp only [Option.some.injEq, Prod.mk.injEq] at h
              obtain ⟨_, rfl⟩ := h
              rw [List.length_take]; omega
            · cases h
          · cases h
        · cases h
      · cases h
    · cases h
  · cases h
theorem callN_len {X : Ctx} (hp : ∀ f p, X.prim f = some p → PrimOK X.P f p) : ∀ k, CLen (callN X k)
  | 0 => fun f args bs H v H' h => by simp [callN] at h
  | k + 1 => fun f args bs H v H' h => by
    simp only [callN] at h
    split at h
    · rename_i p hpf
      exact (hp f p hpf args bs H v H' h).1
    · exact body_len h
theorem sim_callN {X : Ctx} (hm : X.P.follows .mixedOrders = true) (hX : ∀ f, X.ok f = true → ∀ fn c, X.P.funcs[f]? = some fn → fn.body = some c → fn.name ≠ "runtime.NumGoroutine" ∧ codeOk (X.an f) fn.ntmps c = true)
    (hp : ∀ f p, X.prim f = some p → PrimOK X.P f p) : ∀ k, SimC X.P (callN X k)
  | 0 => fun f args bs H v H' h => by simp [callN] at h
  | k + 1 => fun f args bs H v H' h G w St O vals hH hb ho hv => by
    simp only [callN] at h
    split at h
    · rename_i p hpf
      obtain ⟨h1, h2⟩ := hp f p hpf args bs H v H' h
      obtain ⟨h3, h4⟩ := h2 G w St O vals hH hb ho hv
      exact ⟨h3, h1, h4⟩
    · exact sim_body hm hX (sim_callN hm hX hp k) (callN_len hp k) h hH hb ho hv
/-- What a call of the machine comes to, the model's call comes to. -/
theorem sim_call {X : Ctx} (hm : X.P.follows .mixedOrders = true) (hX : ∀ f, X.ok f = true → ∀ fn c, X.P.funcs[f]? = some fn → fn.body = some c → fn.name ≠ "runtime.NumGoroutine" ∧ codeOk (X.an f) fn.ntmps c = true)
    (hp : ∀ f p, X.prim f = some p → PrimOK X.P f p) {f : FuncId} {args : List AV} {v : AV} (h : callD X f args [] [] = some (v, [])) {vals : Array Value} (hH : HI (fun _ => none) w St (fun _ => .no) [] []) (hv : VRs (fun _ => none) w St args vals) :
    Calls X.P f vals w fun e w' => ∃ cv, e = .returned cv ∧ ∃ G' St' O', VR G' w' St' v cv ∧ Step (fun _ => .no) w St O' w' St' := by
  obtain ⟨k, hk⟩ := callD_some.1 h
  obtain ⟨_, _, h3⟩ := sim_callN hm hX hp k f args [] [] v [] hk _ w St _ vals hH (fun b h => by cases h) (fun b h => h) hv
  refine h3.mono fun e w' he => ?_
  cases e with
  | returned cv =>
    obtain ⟨G', St', O', q1, q2, q3, q4, q5⟩ := he
    exact ⟨cv, rfl, G', St', O', q2, q4⟩
  | panicked _ => exact he.elim
  | outgrown => exact he.elim
end Go.VM
