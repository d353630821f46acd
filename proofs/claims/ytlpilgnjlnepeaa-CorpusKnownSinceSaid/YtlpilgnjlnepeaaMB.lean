/-
  The abstract machine, part B.
-/
import Derived.Test.YtlpilgnjlnepeaaMA
set_option linter.all false
namespace Go.VM

def CLe (C C' : CallF) : Prop := ∀ f a bs H r, C f a bs H = some r → C' f a bs H = some r
def ILe (it it' : LoopF) : Prop := ∀ c len g g', (∀ e H r, g e H = some r → g' e H = some r) → ∀ e H r, it c len g e H = some r → it' c len g' e H = some r

theorem meet_mono {C C' : CallF} (h : CLe C C') {bs : List Nat} {H : List AO} {q : Req} {r : AV × List AO} (hr : meet C bs H q = some r) : meet C' bs H q = some r := by
  cases q with
  | call f args => exact h _ _ _ _ _ hr
  | _ => exact hr
theorem evOp_mono {C C' : CallF} (h : CLe C C') {P an bs o e H r} (hr : evOp P an C bs o e H = some r) : evOp P an C' bs o e H = some r := by
  unfold evOp at hr ⊢
  split at hr
  · rename_i q hq
    (try rw [hq])
    (try simp only)
    split at hr
    · rename_i v H' hm
      rw [meet_mono h hm]
      exact hr
    · cases hr
  · cases hr
theorem evOps_mono {C C' : CallF} (h : CLe C C') {P an bs ops} : ∀ (l : List Oper) (e H r), evOps P an C bs ops l e H = some r → evOps P an C' bs ops l e H = some r
  | [], e, H, r, hr => hr
  | o :: l, e, H, r, hr => by
    unfold evOps at hr ⊢
    split at hr
    · rename_i hw
      (try simp only)
      split at hr
      · rename_i e' H' he
        rw [evOp_mono h he]
        exact evOps_mono h l _ _ _ hr
      · cases hr
    · rename_i hw
      exact evOps_mono h l _ _ _ hr
    · cases hr
theorem meetD_mono {C C' : CallF} (h : CLe C C') {bs b rk K q r} (hr : meetD C bs b rk K q = some r) : meetD C' bs b rk K q = some r := by
  cases q with
  | call f args =>
    simp only [meetD] at hr ⊢
    split at hr
    · rename_i hc
      (try rw [if_pos hc])
      split at hr
      · rename_i v H' hC
        rw [h _ _ _ _ _ hC]
        exact hr
      · cases hr
    · cases hr
  | _ => exact hr
theorem evOpD_mono {C C' : CallF} (h : CLe C C') {P an bs b rk o e K r} (hr : evOpD P an C bs b rk o e K = some r) : evOpD P an C' bs b rk o e K = some r := by
  unfold evOpD at hr ⊢
  split at hr
  · rename_i q hq
    (try rw [hq])
    (try simp only)
    split at hr
    · rename_i v K' ft hm
      rw [meetD_mono h hm]
      exact hr
    · cases hr
  · cases hr
theorem evOpsD_mono {C C' : CallF} (h : CLe C C') {P an bs ops b} : ∀ (l : List (Oper × Nat × Nat)) (e K r), evOpsD P an C bs ops b l e K = some r → evOpsD P an C' bs ops b l e K = some r
  | [], e, K, r, hr => hr
  | (o, i, rk) :: l, e, K, r, hr => by
    unfold evOpsD at hr ⊢
    split at hr
    · (try simp only)
      split at hr
      · rename_i e' K' ft he
        rw [evOpD_mono h he]
        (try simp only)
        split at hr
        · rename_i e2 K2 fs h2
          rw [evOpsD_mono h l _ _ _ h2]
          exact hr
        · cases hr
      · cases hr
    · (try simp only)
      split at hr
      · rename_i e2 K2 fs h2
        rw [evOpsD_mono h l _ _ _ h2]
        exact hr
      · cases hr
    · cases hr
theorem evDraw_mono {C C' : CallF} (h : CLe C C') {P an bs ops e H r} (hr : evDraw P an C bs ops e H = some r) : evDraw P an C' bs ops e H = some r := by
  unfold evDraw at hr ⊢
  split at hr
  · rename_i e' K fs he
    rw [evOpsD_mono h _ _ _ _ he]
    exact hr
  · cases hr
theorem iter_mono {c : Env → Env} {len : Nat} {g g' : Env → List AO → Option Out} (h : ∀ e H r, g e H = some r → g' e H = some r) : ∀ (n m : Nat), n ≤ m → ∀ e H r, iter c len g n e H = some r → iter c len g' m e H = some r
  | 0, _, _, e, H, r, hr => by cases hr
  | n + 1, 0, hm, e, H, r, hr => by omega
  | n + 1, m + 1, hm, e, H, r, hr => by
    unfold iter at hr ⊢
    split at hr
    · rename_i hc
      (try rw [if_pos hc])
      split at hr
      · rename_i e' H' hg
        rw [h _ _ _ hg]
        exact iter_mono h n m (by omega) _ _ _ hr
      · rename_i o ho
        rw [h _ _ _ hr]
        split
        · rename_i e' H' heq
          injection heq with heq
          subst heq
          exact absurd hr (ho _ _)
        · rfl
    · cases hr
theorem ev_mono {C C' : CallF} {it it' : LoopF} (h : CLe C C') (hi : ILe it it') {P an} : ∀ (c : Code) (bs e H r), ev P an C it c bs e H = some r → ev P an C' it' c bs e H = some r := by
  intro c
  induction c with
  | region id ops dr =>
    intro bs e H r hr
    simp only [ev] at hr ⊢
    cases dr with
    | true =>
      simp only [if_true] at hr ⊢
      split at hr
      · rename_i e' H' he
        rw [evDraw_mono h he]
        exact hr
      · cases hr
    | false =>
      simp only [if_false, Bool.false_eq_true] at hr ⊢
      split at hr
      · rename_i e' H' he
        rw [evOps_mono h _ _ _ _ he]
        exact hr
      · cases hr
  | seq a b iha ihb =>
    intro bs e H r hr
    simp only [ev] at hr ⊢
    split at hr
    · rename_i e' H' he
      rw [iha _ _ _ _ he]
      exact ihb _ _ _ _ hr
    · rename_i o ho
      rw [iha _ _ _ _ hr]
      split
      · rename_i e' H' heq
        injection heq with heq
        subst heq
        exact absurd hr (ho _ _)
      · rfl
  | cond c a b iha ihb =>
    intro bs e H r hr
    simp only [ev] at hr ⊢
    split at hr
    · exact iha _ _ _ _ hr
    · exact ihb _ _ _ _ hr
    · cases hr
  | block id c ih =>
    intro bs e H r hr
    simp only [ev] at hr ⊢
    split at hr
    · rename_i i e' H' he
      rw [ih _ _ _ _ he]
      exact hr
    · rename_i o ho
      rw [ih _ _ _ _ hr]
      split
      · rename_i i e' H' heq
        injection heq with heq
        subst heq
        exact absurd hr (ho _ _ _)
      · rfl
  | loop c ih =>
    intro bs e H r hr
    simp only [ev] at hr ⊢
    exact hi _ _ _ _ (fun e H r h => ih _ _ _ _ h) _ _ _ hr
  | skip => intro bs e H r hr; exact hr
  | exit id => intro bs e H r hr; exact hr
  | ret => intro bs e H r hr; exact hr
  | label l => intro bs e H r hr; exact hr
  | rangeFunc f p a b iha ihb => intro bs e H r hr; simp only [ev] at hr; cases hr
  | scope c ih => intro bs e H r hr; simp only [ev] at hr; cases hr
  | goto l => intro bs e H r hr; simp only [ev] at hr; cases hr
  | refuse s => intro bs e H r hr; simp only [ev] at hr; cases hr
theorem runBody_mono {C C' : CallF} {it it' : LoopF} (h : CLe C C') (hi : ILe it it') {X f args bs H r} (hr : runBody X C it f args bs H = some r) : runBody X C' it' f args bs H = some r := by
  unfold runBody at hr ⊢
  split at hr
  · rename_i fn hf
    (try simp only)
    split at hr
    · rename_i c hc
      (try simp only)
      split at hr
      · rename_i hl
        (try rw [if_pos hl])
        split at hr
        · cases hr
        · rename_i ex e H' hne he
          rw [ev_mono h hi _ _ _ _ _ he]
          split
          · rename_i heq; injection heq with heq; injection heq with h1 h2; exact absurd h1 (hne _)
          · rename_i heq; injection heq with heq; injection heq with h1 h2; injection h2 with h2 h3; subst h1 h2 h3; exact hr
          · rename_i heq; cases heq
        · cases hr
      · cases hr
    · cases hr
  · cases hr
theorem iterN_le {n m : Nat} (h : n ≤ m) : ILe (iterN n) (iterN m) := fun _ _ _ _ hg e H r hr => iter_mono hg n m h e H r hr
theorem callN_le {X : Ctx} : ∀ (n m : Nat), n ≤ m → CLe (callN X n) (callN X m)
  | 0, _, _, f, a, bs, H, r, hr => by cases hr
  | n + 1, 0, h, f, a, bs, H, r, hr => by omega
  | n + 1, m + 1, h, f, a, bs, H, r, hr => by
    unfold callN at hr ⊢
    split at hr
    · (try simp only); exact hr
    · (try simp only); exact runBody_mono (callN_le n m (by omega)) (iterN_le (by omega)) hr

/-! ### without bounds -/
open Classical in
noncomputable def iterD : LoopF := fun c len g e H => if h : ∃ n r, iter c len g n e H = some r then some (Classical.choose (Classical.choose_spec h)) else none
open Classical in
noncomputable def callD (X : Ctx) : CallF := fun f args bs H => if h : ∃ k r, callN X k f args bs H = some r then some (Classical.choose (Classical.choose_spec h)) else none

theorem iterD_some {c len g e H r} : iterD c len g e H = some r ↔ ∃ n, iter c len g n e H = some r := by
  unfold iterD
  constructor
  · intro h
    split at h
    · rename_i hx
      injection h with h
      exact ⟨_, h ▸ Classical.choose_spec (Classical.choose_spec hx)⟩
    · cases h
  · rintro ⟨n, hn⟩
    have hx : ∃ n r, iter c len g n e H = some r := ⟨n, r, hn⟩
    rw [dif_pos hx]
    have h2 := Classical.choose_spec (Classical.choose_spec hx)
    have a := iter_mono (c := c) (len := len) (g := g) (g' := g) (fun _ _ _ h => h) _ (max n (Classical.choose hx)) (Nat.le_max_right _ _) _ _ _ h2
    have b := iter_mono (c := c) (len := len) (g := g) (g' := g) (fun _ _ _ h => h) _ (max n (Classical.choose hx)) (Nat.le_max_left _ _) _ _ _ hn
    exact a.symm.trans b
theorem callD_some {X f args bs H r} : callD X f args bs H = some r ↔ ∃ k, callN X k f args bs H = some r := by
  unfold callD
  constructor
  · intro h
    split at h
    · rename_i hx
      injection h with h
      exact ⟨_, h ▸ Classical.choose_spec (Classical.choose_spec hx)⟩
    · cases h
  · rintro ⟨n, hn⟩
    have hx : ∃ k r, callN X k f args bs H = some r := ⟨n, r, hn⟩
    rw [dif_pos hx]
    have h2 := Classical.choose_spec (Classical.choose_spec hx)
    have a := callN_le _ (max n (Classical.choose hx)) (Nat.le_max_right _ _) _ _ _ _ _ h2
    have b := callN_le _ (max n (Classical.choose hx)) (Nat.le_max_left _ _) _ _ _ _ _ hn
    exact a.symm.trans b
theorem iterD_le (n : Nat) : ILe (iterN n) iterD := fun _ _ _ _ hg e H r hr => iterD_some.2 ⟨n, iter_mono hg n n (Nat.le_refl _) e H r hr⟩
theorem callN_le_D {X : Ctx} (n : Nat) : CLe (callN X n) (callD X) := fun _ _ _ _ _ hr => callD_some.2 ⟨n, hr⟩
/-- One round. -/
theorem iterD_eq (c : Env → Env) (len : Nat) (g : Env → List AO → Option Out) (e : Env) (H : List AO) :
    iterD c len g e H = if cloEnv len (c e) ∧ len ≤ H.length then (match g (c e) (H.take len) with | some (.normal, e', H') => iterD c len g e' H' | r => r) else none := by
  apply Option.ext
  intro r
  rw [iterD_some]
  constructor
  · rintro ⟨n, hn⟩
    cases n with
    | zero => cases hn
    | succ n =>
      unfold iter at hn
      split at hn
      · rename_i hc
        rw [if_pos hc]
        split at hn
        · rename_i e' H' hg
          rw [hg]
          exact iterD_some.2 ⟨n, hn⟩
        · rename_i o ho
          rw [hn]
          split
          · rename_i heq; injection heq with heq; subst heq; exact absurd hn (ho _ _)
          · rfl
      · cases hn
  · intro h
    split at h
    · rename_i hc
      split at h
      · rename_i e' H' hg
        obtain ⟨n, hn⟩ := iterD_some.1 h
        exact ⟨n + 1, by unfold iter; rw [if_pos hc, hg]; exact hn⟩
      · rename_i o ho
        refine ⟨1, ?_⟩
        unfold iter
        rw [if_pos hc, h]
        split
        · rename_i heq; injection heq with heq; subst heq; exact absurd h (ho _ _)
        · rfl
    · cases h

section approx
variable {X : Ctx}
/-- From some bound on. -/
def Late (p : Nat → Prop) : Prop := ∃ n, ∀ m, n ≤ m → p m
theorem Late.and {p q : Nat → Prop} (h : Late p) (k : Late q) : Late fun m => p m ∧ q m := by
  obtain ⟨a, ha⟩ := h
  obtain ⟨b, hb⟩ := k
  exact ⟨max a b, fun m hm => ⟨ha m (by omega), hb m (by omega)⟩⟩
theorem Late.mono {p q : Nat → Prop} (h : Late p) (k : ∀ m, p m → q m) : Late q := by
  obtain ⟨a, ha⟩ := h
  exact ⟨a, fun m hm => k m (ha m hm)⟩
theorem Late.all {p : Nat → Prop} (h : ∀ m, p m) : Late p := ⟨0, fun m _ => h m⟩
theorem callD_late {f args bs H r} (h : callD X f args bs H = some r) : Late fun m => callN X m f args bs H = some r := by
  obtain ⟨k, hk⟩ := callD_some.1 h
  exact ⟨k, fun m hm => callN_le k m hm _ _ _ _ _ hk⟩
theorem meet_late {bs H q r} (h : meet (callD X) bs H q = some r) : Late fun m => meet (callN X m) bs H q = some r := by
  cases q with
  | call f args => exact callD_late h
  | _ => exact Late.all fun _ => h
theorem evOp_late {an bs o e H r} (h : evOp X.P an (callD X) bs o e H = some r) : Late fun m => evOp X.P an (callN X m) bs o e H = some r := by
  unfold evOp at h
  split at h
  · rename_i q hq
    split at h
    · rename_i v H' hm
      exact (meet_late hm).mono fun m hm => by unfold evOp; rw [hq]; simp only; rw [hm]; exact h
    · cases h
  · cases h
theorem evOps_late {an bs ops} : ∀ (l : List Oper) (e H r), evOps X.P an (callD X) bs ops l e H = some r → Late fun m => evOps X.P an (callN X m) bs ops l e H = some r
  | [], e, H, r, h => Late.all fun _ => h
  | o :: l, e, H, r, h => by
    unfold evOps at h
    split at h
    · rename_i hw
      split at h
      · rename_i e' H' he
        exact ((evOp_late he).and (evOps_late l _ _ _ h)).mono fun m ⟨h1, h2⟩ => by unfold evOps; rw [hw]; simp only; rw [h1]; exact h2
      · cases h
    · rename_i hw
      exact (evOps_late l _ _ _ h).mono fun m h2 => by unfold evOps; rw [hw]; exact h2
    · cases h
theorem meetD_late {bs b rk K q r} (h : meetD (callD X) bs b rk K q = some r) : Late fun m => meetD (callN X m) bs b rk K q = some r := by
  cases q with
  | call f args =>
    simp only [meetD] at h
    split at h
    · rename_i hc
      split at h
      · rename_i v H' hC
        exact (callD_late hC).mono fun m hm => by simp only [meetD]; rw [if_pos hc, hm]; exact h
      · cases h
    · cases h
  | _ => exact Late.all fun _ => h
theorem evOpD_late {an bs b rk o e K r} (h : evOpD X.P an (callD X) bs b rk o e K = some r) : Late fun m => evOpD X.P an (callN X m) bs b rk o e K = some r := by
  unfold evOpD at h
  split at h
  · rename_i q hq
    split at h
    · rename_i v K' ft hm
      exact (meetD_late hm).mono fun m hm => by unfold evOpD; rw [hq]; simp only; rw [hm]; exact h
    · cases h
  · cases h
theorem evOpsD_late {an bs ops b} : ∀ (l : List (Oper × Nat × Nat)) (e K r), evOpsD X.P an (callD X) bs ops b l e K = some r → Late fun m => evOpsD X.P an (callN X m) bs ops b l e K = some r
  | [], e, K, r, h => Late.all fun _ => h
  | (o, i, rk) :: l, e, K, r, h => by
    unfold evOpsD at h
    split at h
    · rename_i hw
      split at h
      · rename_i e' K' ft he
        split at h
        · rename_i e2 K2 fs h2
          exact ((evOpD_late he).and (evOpsD_late l _ _ _ h2)).mono fun m ⟨h1, h3⟩ => by unfold evOpsD; rw [hw]; simp only; rw [h1]; simp only; rw [h3]; exact h
        · cases h
      · cases h
    · rename_i hw
      split at h
      · rename_i e2 K2 fs h2
        exact (evOpsD_late l _ _ _ h2).mono fun m h3 => by unfold evOpsD; rw [hw]; simp only; rw [h3]; exact h
      · cases h
    · cases h
theorem evDraw_late {an bs ops e H r} (h : evDraw X.P an (callD X) bs ops e H = some r) : Late fun m => evDraw X.P an (callN X m) bs ops e H = some r := by
  unfold evDraw at h
  split at h
  · rename_i e' K fs he
    exact (evOpsD_late _ _ _ _ he).mono fun m hm => by unfold evDraw; rw [hm]; exact h
  · cases h
theorem iter_late {c : Env → Env} {len : Nat} {g : Env → List AO → Option Out} {gN : Nat → Env → List AO → Option Out} (h : ∀ e H r, g e H = some r → Late fun m => gN m e H = some r) :
    ∀ (n : Nat) (e H r), iter c len g n e H = some r → Late fun m => iter c len (gN m) n e H = some r
  | 0, e, H, r, hr => by cases hr
  | n + 1, e, H, r, hr => by
    unfold iter at hr
    split at hr
    · rename_i hc
      split at hr
      · rename_i e' H' hg
        exact ((h _ _ _ hg).and (iter_late h n _ _ _ hr)).mono fun m ⟨h1, h2⟩ => by unfold iter; rw [if_pos hc, h1]; exact h2
      · rename_i o ho
        exact (h _ _ _ hr).mono fun m h1 => by
          unfold iter; rw [if_pos hc, h1]
          split
          · rename_i heq; injection heq with heq; subst heq; exact absurd hr (ho _ _)
          · rfl
    · cases hr
theorem ev_late {an} : ∀ (c : Code) (bs e H r), ev X.P an (callD X) iterD c bs e H = some r → Late fun m => ev X.P an (callN X m) (iterN m) c bs e H = some r := by
  intro c
  induction c with
  | region id ops dr =>
    intro bs e H r hr
    simp only [ev] at hr ⊢
    cases dr with
    | true =>
      simp only [if_true] at hr ⊢
      split at hr
      · rename_i e' H' he
        exact (evDraw_late he).mono fun m hm => by rw [hm]; exact hr
      · cases hr
    | false =>
      simp only [if_false, Bool.false_eq_true] at hr ⊢
      split at hr
      · rename_i e' H' he
        exact (evOps_late _ _ _ _ he).mono fun m hm => by rw [hm]; exact hr
      · cases hr
  | seq a b iha ihb =>
    intro bs e H r hr
    simp only [ev] at hr ⊢
    split at hr
    · rename_i e' H' he
      exact ((iha _ _ _ _ he).and (ihb _ _ _ _ hr)).mono fun m ⟨h1, h2⟩ => by rw [h1]; exact h2
    · rename_i o ho
      exact (iha _ _ _ _ hr).mono fun m h1 => by
        rw [h1]
        split
        · rename_i heq; injection heq with heq; subst heq; exact absurd hr (ho _ _)
        · rfl
  | cond c a b iha ihb =>
    intro bs e H r hr
    simp only [ev] at hr ⊢
    split at hr
    · exact iha _ _ _ _ hr
    · exact ihb _ _ _ _ hr
    · cases hr
  | block id c ih =>
    intro bs e H r hr
    simp only [ev] at hr ⊢
    split at hr
    · rename_i i e' H' he
      exact (ih _ _ _ _ he).mono fun m h1 => by rw [h1]; exact hr
    · rename_i o ho
      exact (ih _ _ _ _ hr).mono fun m h1 => by
        rw [h1]
        split
        · rename_i heq; injection heq with heq; subst heq; exact absurd hr (ho _ _ _)
        · rfl
  | loop c ih =>
    intro bs e H r hr
    simp only [ev] at hr ⊢
    obtain ⟨n, hn⟩ := iterD_some.1 hr
    obtain ⟨k, hk⟩ := iter_late (gN := fun m => ev X.P an (callN X m) (iterN m) c (H.length :: bs)) (fun e H r h => ih _ _ _ _ h) n _ _ _ hn
    exact ⟨max n k, fun m hm => iter_mono (fun _ _ _ h => h) n m (by omega) _ _ _ (hk m (by omega))⟩
  | skip => intro bs e H r hr; exact Late.all fun _ => hr
  | exit id => intro bs e H r hr; exact Late.all fun _ => hr
  | ret => intro bs e H r hr; exact Late.all fun _ => hr
  | label l => intro bs e H r hr; exact Late.all fun _ => hr
  | rangeFunc f p a b iha ihb => intro bs e H r hr; simp only [ev] at hr; cases hr
  | scope c ih => intro bs e H r hr; simp only [ev] at hr; cases hr
  | goto l => intro bs e H r hr; simp only [ev] at hr; cases hr
  | refuse s => intro bs e H r hr; simp only [ev] at hr; cases hr
theorem runBody_late {f args bs H r} (hr : runBody X (callD X) iterD f args bs H = some r) : Late fun m => runBody X (callN X m) (iterN m) f args bs H = some r := by
  unfold runBody at hr
  split at hr
  · rename_i fn hf
    split at hr
    · rename_i c hc
      split at hr
      · rename_i hl
        split at hr
        · cases hr
        · rename_i ex e H' hne he
          exact (ev_late _ _ _ _ _ he).mono fun m hm => by
            unfold runBody
            rw [hf]; simp only
            rw [hc]; simp only
            rw [if_pos hl, hm]
            split
            · rename_i heq; injection heq with heq; injection heq with h1 h2; exact absurd h1 (hne _)
            · rename_i heq; injection heq with heq; injection heq with h1 h2; injection h2 with h2 h3; subst h1 h2 h3; exact hr
            · rename_i heq; cases heq
        · cases hr
      · cases hr
    · cases hr
  · cases hr
/-- THE EQUATION OF A CALL. -/
theorem callD_eq (f : FuncId) (args : List AV) (bs : List Nat) (H : List AO) :
    callD X f args bs H = match X.prim f with | some p => p args bs H | none => runBody X (callD X) iterD f args bs H := by
  apply Option.ext
  intro r
  rw [callD_some]
  constructor
  · rintro ⟨k, hk⟩
    cases k with
    | zero => cases hk
    | succ k =>
      unfold callN at hk
      split at hk
      · rename_i p hp; rw [hp]; exact hk
      · rename_i hp; rw [hp]; exact runBody_mono (callN_le_D k) (iterD_le k) hk
  · intro h
    split at h
    · rename_i p hp
      exact ⟨1, by unfold callN; rw [hp]; exact h⟩
    · rename_i hp
      obtain ⟨n, hn⟩ := runBody_late h
      exact ⟨n + 1, by unfold callN; rw [hp]; exact hn n (Nat.le_refl _)⟩
end approx
end Go.VM
