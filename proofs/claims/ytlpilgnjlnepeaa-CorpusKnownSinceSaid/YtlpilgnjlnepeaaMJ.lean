/-
  The abstract machine, part J.
-/
import Derived.Test.YtlpilgnjlnepeaaMI
set_option linter.all false
namespace Go.VM
variable {P : Program} {G : GS} {w : World} {St : Sts} {O : Nat → Ow} {bs : List Nat} {K K' : List AO} {E E' : Env} {a : Act}

/-- What whoever goes on behind an operation may take for granted. -/
def Goes (G : GS) (w : World) (St : Sts) (O : Nat → Ow) (bs : List Nat) (K' : List AO) (E' : Env) (a : Act) (dst : Option Tmp) (next : Act → World → Prop) : Prop :=
  ∀ cv w' G' St' O', HI G' w' St' O' bs K' → EI G' w' St' O' E' (a.put dst cv).tmps → Step O w St O' w' St' → GLe G G' → next (a.put dst cv) w'

theorem evOpd_VR (h : EI G w St O E a.tmps) (x : Operand) : VR G w St (evOpd E x) (a.eval x) := by
  cases x with
  | tmp t => exact h.env t
  | const v => exact VR.ofConst v
  | global g => exact .poison _
  | func f => exact .func f [] [] #[] #[] rfl rfl (fun i x u h => by simp at h) (fun i x u h => by simp at h)
theorem inOf_VR (h : EI G w St O E a.tmps) (an : Ann) (d : Option Tmp) (o : Op) (x : Operand) : VR G w St (inOf an d o E x) (a.eval x) := by
  cases x with
  | tmp t =>
    simp only [inOf]
    split
    · exact h.env t
    · exact (h.env t).strip
  | const v => exact evOpd_VR h (.const v)
  | global g => exact evOpd_VR h (.global g)
  | func f => exact evOpd_VR h (.func f)
theorem strip_not (v : AV) (es : List (List AV)) : v.strip ≠ .slc true es := by
  cases v <;> simp [AV.strip]
/-- An operand that hands nothing on carries a right only if it is a nil slice of the text. -/
theorem inOf_flag {an : Ann} {d : Option Tmp} {o : Op} {x : Operand} {es : List (List AV)} (h : inOf an d o E x = .slc true es) : (∃ t, x = .tmp t ∧ hands an d o t = true ∧ E.get t = .slc true es) ∨ (es = [] ∧ a.eval x = .slice none 0 0) := by
  cases x with
  | tmp t =>
    simp only [inOf] at h
    split at h
    · rename_i hh; exact .inl ⟨t, rfl, hh, h⟩
    · exact absurd h (strip_not _ _)
  | const v =>
    simp only [inOf, evOpd, ofConst] at h
    split at h
    · split at h <;> cases h
    · injection h with _ h; exact .inr ⟨h.symm, rfl⟩
    · split at h <;> cases h
    · unfold ofCell at h
      split at h <;> simp at h
  | global g => simp [inOf, evOpd] at h
  | func f => simp [inOf, evOpd] at h
theorem gives_none {an : Ann} {d : Option Tmp} {o : Op} (h : ∀ t, hands an d o t = false) : gives an d o E = E := by
  unfold gives
  have : o.operands.toList.filterMap (handT an d o) = [] := by
    apply List.filterMap_eq_nil_iff.2
    intro x _
    cases x <;> simp [handT, h]
  rw [this]
theorem EI.put_dst (h : EI G w St O E a.tmps) {dst : Option Tmp} {v : AV} {cv : Value} (hv : VR G w St v cv) (hown : ∀ es t, dst = some t → v = .slc true es → Spare w St O (.tmp t) es cv) (ht : ∀ t, dst = some t → t < a.tmps.size) : EI G w St O (putD E dst v) (a.put dst cv).tmps := by
  cases dst with
  | none => exact h
  | some t => exact h.put hv (fun es he => hown es t rfl he) (ht t rfl)
def movesOp : Op → Bool
  | .move _ | .assign _ => true
  | _ => false
theorem hands_plain {an : Ann} {d : Option Tmp} {o : Op} (hp : plainOp o = true) (hm : movesOp o = false) (t : Tmp) (hs : ∀ ty x y, o ≠ .store ty x y) : hands an d o t = false := by
  unfold hands
  cases o with
  | move _ => cases hm
  | assign _ => cases hm
  | store ty x y => exact absurd rfl (hs ty x y)
  | call c =>
    simp only
    obtain ⟨callee, args, ats⟩ := c
    cases callee with
    | builtin b =>
      cases b <;> simp [plainOp] at hp <;> simp
    | _ => simp
  | _ => rfl
theorem readCells_flag {t : TypeId} {cs : List AV} {off : Nat} {v : AV} (h : readCells P t cs off = some v) (es : List (List AV)) : v ≠ .slc true es := by
  unfold readCells at h
  split at h
  · split at h
    · injection h with h; subst h; simp
    · cases h
  · cases hc : cs[off]? with
    | none => simp [hc] at h
    | some c => simp [hc] at h; subst h; exact strip_not _ _
  · cases h
/-- A plain operation's result carries no right, unless it moves one. -/
theorem tidy_flag {an : Ann} {nid : Nat} {d : Option Tmp} {o : Op} {ins : List AV} {v : AV} (hp : plainOp o = true) (hm : movesOp o = false) (hq : req P an nid d o ins = some (.val v)) (es : List (List AV)) : tidy o v ≠ .slc true es := by
  unfold tidy
  split
  · rename_i hf
    cases o with
    | move _ => cases hm
    | assign _ => cases hm
    | buildSlice t n ps => simp [plainOp] at hp
    | load t x =>
      simp only [req] at hq
      split at hq
      · simp at hq
      · exact readCells_flag (some_val hq) es
      · simp at hq
      · cases hq
    | call c =>
      obtain ⟨callee, args, ats⟩ := c
      simp only [req, reqCall] at hq
      split at hq
      · split at hq
        all_goals first
          | (split at hq
             · injection hq with hq; injection hq with hq; subst hq; simp
             · cases hq)
          | (split at hq <;> simp at hq)
          | cases hq
      · simp [plainOp] at hp
      · split at hq <;> simp at hq
      · cases hq
    | _ => cases hf
  · exact strip_not _ _

/-- Whatever runs to a value in an unchanged world, and moves no right. -/
theorem wp_plain {an : Ann} {nid : Nat} {o : Oper} {v : AV} {next : Act → World → Prop} {Q : Exit → Act → World → Prop} (hH : HI G w St O bs K) (hE : EI G w St O E a.tmps)
    (hq : req P an nid o.dst o.op (o.op.operands.toList.map (inOf an o.dst o.op E)) = some (.val v)) (hp : plainOp o.op = true) (ht : ∀ t, o.dst = some t → t < a.tmps.size)
    (hK : Goes G w St O bs K (putD (gives an o.dst o.op E) o.dst (tidy o.op v)) a o.dst next) : o.wp P a w next Q := by
  obtain ⟨cv, hrun, hv⟩ := plain_sim (P := P) o a.eval (inOf an o.dst o.op E) (fun x _ => inOf_VR hE an o.dst o.op x) hp hq
  unfold Oper.wp
  rw [hrun, Oper.upon_value]
  by_cases hm : movesOp o.op = true
  · -- a move
    have hx : ∃ x, (o.op = .move x ∨ o.op = .assign x) ∧ cv = a.eval x ∧ v = inOf an o.dst o.op E x := by
      cases hop : o.op with
      | move x =>
        rw [hop] at hq
        simp only [req, Op.operands, List.map_cons, List.map_nil] at hq
        split at hq
        · simp at hq
        injection hq with hq; injection hq with hq
        refine ⟨x, .inl rfl, ?_, hq.symm⟩
        unfold execOp at hrun; rw [hop] at hrun; simp at hrun; exact hrun.symm
      | assign x =>
        rw [hop] at hq
        simp only [req, Op.operands, List.map_cons, List.map_nil] at hq
        split at hq
        · simp at hq
        injection hq with hq; injection hq with hq
        refine ⟨x, .inr rfl, ?_, hq.symm⟩
        unfold execOp at hrun; rw [hop] at hrun; simp at hrun; exact hrun.symm
      | _ => rw [hop] at hm; cases hm
    obtain ⟨x, hopx, hcv, hvx⟩ := hx
    have htidy : tidy o.op v = v := by rcases hopx with h | h <;> simp [tidy, flagOp, h]
    have hops : o.op.operands.toList = [x] := by rcases hopx with h | h <;> simp [Op.operands, h]
    rw [htidy] at hK
    by_cases hfl : ∃ t es, x = .tmp t ∧ hands an o.dst o.op t = true ∧ E.get t = .slc true es
    · obtain ⟨t, es, rfl, hh, he⟩ := hfl
      have hvv : v = .slc true es := by rw [hvx]; simp only [inOf]; rw [if_pos hh]; exact he
      have hg : gives an o.dst o.op E = E.set t (.slc false es) := by
        unfold gives; rw [hops]; simp [handT, hh, he]
      rw [hg, hvv] at hK
      have hcv' : cv = a.tmps.getD t undef := by rw [hcv]; rfl
      cases hd : o.dst with
      | none =>
        rw [hd] at hK
        refine hK cv w G St (retag O (.tmp t) .no) (hH.retag_tmp t .no) ?_ (Step.retag O w St (.tmp t) .no (by simp)) (GLe.refl G)
        exact hE.give t .no he
      | some d =>
        rw [hd] at hK ht
        refine hK cv w G St (retag O (.tmp t) (.tmp d)) (hH.retag_tmp t (.tmp d)) ?_ (Step.retag O w St (.tmp t) (.tmp d) (by simp)) (GLe.refl G)
        have := hE.pass t d he (ht d rfl)
        rw [← hcv'] at this
        exact this
    · have hg : gives an o.dst o.op E = E := by
        unfold gives
        rw [hops]
        cases x with
        | tmp t =>
          simp only [List.filterMap_cons, List.filterMap_nil, handT]
          by_cases hh : hands an o.dst o.op t = true
          · simp only [hh, if_true]
            split
            · rename_i es he; exact absurd ⟨t, es, rfl, hh, he⟩ hfl
            · rfl
          · simp [hh]
        | _ => rfl
      rw [hg] at hK
      refine hK cv w G St O hH ?_ (Step.refl O w St) (GLe.refl G)
      refine hE.put_dst hv (fun es t _ hes => ?_) ht
      rw [hvx] at hes
      rcases inOf_flag (a := a) hes with ⟨t', rfl, h1, h2⟩ | ⟨h1, h2⟩
      · exact absurd ⟨t', es, rfl, h1, h2⟩ hfl
      · rw [hcv, h2]; exact ⟨none, 0, 0, rfl, .inl rfl⟩
  · have hm' : movesOp o.op = false := by simpa using hm
    have hg : gives an o.dst o.op E = E := gives_none fun t => hands_plain hp hm' t (by
      intro ty x y h
      rw [h] at hq
      simp only [req, Op.operands, List.map_cons, List.map_nil] at hq
      (repeat' split at hq) <;> simp at hq)
    rw [hg] at hK
    refine hK cv w G St O hH ?_ (Step.refl O w St) (GLe.refl G)
    refine hE.put_dst ?_ (fun es t _ hes => absurd hes (tidy_flag hp hm' hq es)) ht
    unfold tidy; split
    · exact hv
    · exact hv.strip
end Go.VM
