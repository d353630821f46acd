/-
  The stable sort sorts.
-/
import Derived.Test.YtlpilgnjlnepeaaB1
set_option linter.all false
namespace Go.Proofs.Ytlpilgnjlnepeaa.T
open Go.VM Go.Proofs
set_option linter.unusedSimpArgs false
set_option maxHeartbeats 16000000
set_option maxRecDepth 10000

@[simp high] theorem apartF_nil (b : Nat) (f : Foot) : apartF b f [] = true := by simp [apartF]
@[simp high] theorem apartF_nil' (b : Nat) (f : Foot) : apartF b [] f = true := by simp [apartF]
@[simp high] theorem footsOk_nil (ops : Array Oper) (b i : Nat) (r : List (Nat × Foot)) : footsOk ops b ((i, []) :: r) = footsOk ops b r := by simp [footsOk, apartF]
@[simp high] theorem apartF_rd (b : Nat) (x y : Option Nat) : apartF b [(x, false)] [(y, false)] = true := by simp [apartF, clash]
/-! rows as functions -/
def tab (f : Nat → Act) (n : Nat) : List (List AV) := (List.range n).map fun i => cAct (f i)
def upf (f : Nat → Act) (i : Nat) (a : Act) : Nat → Act := fun j => if j = i then a else f j
@[simp] theorem tab_len (f : Nat → Act) (n : Nat) : (tab f n).length = n := by simp [tab]
theorem tab_get (f : Nat → Act) (n i : Nat) (h : i < n) : (tab f n)[i]? = some (cAct (f i)) := by simp [tab, h]
@[simp] theorem tab_getE (f : Nat → Act) (n i : Nat) (h : i < (tab f n).length) : (tab f n)[i] = cAct (f i) := by simp [tab]
theorem tab_set (f : Nat → Act) (n i : Nat) (a : Act) : (tab f n).set i (cAct a) = tab (upf f i a) n := by
  apply List.ext_getElem?
  intro j
  simp only [tab, List.getElem?_set, List.getElem?_map, List.length_map, List.length_range]
  by_cases h : i = j
  · subst h
    by_cases h2 : i < n <;> simp [h2, upf]
  · by_cases h2 : j < n
    · simp [h, h2, upf, Ne.symm h]
    · simp [h, h2]
@[simp] theorem uni_tab (f : Nat → Act) (n : Nat) : uni 7 (tab f n) = true := by simp [uni, tab]
theorem wrap_n (i : Int) (x : Nat) (h1 : x < 4611686018427387904) (h : i = x) : IntKind.i64.wrap i = (x : Int) := by
  rw [h, wrap_i64 _ (by omega) (by omega)]
/-- exchanging two rows -/
def swf (f : Nat → Act) (a b n : Nat) : Nat → Act := fun k => if a ≤ k ∧ k < a + n then f (k + b - a) else if b ≤ k ∧ k < b + n then f (k + a - b) else f k

theorem lp89 (f : Nat → Act) (q v a b m n : Nat) (cm : AV) (bs : List Nat) (H : List AO) (c0 : Code) (hc0 : (loops (Try.f89.body.getD .skip))[0]? = some c0) (hq : q < H.length) (hn : n ≤ 100000) (hab : a + m ≤ b) (hb : b + m ≤ n) :
    ∃ x e' H', lev Try.prog an89 (callD X) c0 bs ((fun s : Nat × (Nat → Act) => [(0, .arr q v 0 n), (1, I a), (2, I b), (3, I m), (10, I s.1)]) ((0, f))) ((fun s : Nat × (Nat → Act) => H.set q (.arr v (tab s.2 n))) ((0, f))) = some (x, e', H') ∧ (H' = H.set q (.arr v (tab (swf f a b m) n)) ∧ x = .exit 0) := by
  simp only [Try.f89, loops, List.cons_append, List.nil_append, List.append_nil, List.getElem?_cons_zero, List.getElem?_cons_succ, Option.getD_some, Option.some.injEq] at hc0
  refine lev_inv (σ := Nat × (Nat → Act)) (fun s => [(0, .arr q v 0 n), (1, I a), (2, I b), (3, I m), (10, I s.1)]) (fun s => H.set q (.arr v (tab s.2 n))) (fun s => s.1 ≤ m ∧ s.2 = swf f a b s.1) (fun s => m - s.1) (fun x e' H' => H' = H.set q (.arr v (tab (swf f a b m) n)) ∧ x = .exit 0) ((0, f)) ?_ ?_ ?_ ?_ ?_
  · exact ⟨Nat.zero_le _, by funext k; simp [swf]; split; omega; split; omega; rfl⟩
  · intro s hs; simp
  · intro s hs; simp [cloEnv, clo, cloL, S, hq]
  · intro s hs; subst hc0; simp [keepAt, headId, lookN, Env.keep, Env.get]
  intro s hs
  subst hc0
  obtain ⟨s, g⟩ := s
  obtain ⟨hs, hg⟩ := hs
  simp only at hs hg ⊢
  rcases Nat.lt_or_ge s m with hlt | hge
  · left
    have h0 : (s : Int) < (m : Int) := by omega
    have hw := wrap_s s (by omega)
    obtain ⟨x, hx⟩ : ∃ x, x = a + s := ⟨_, rfl⟩
    obtain ⟨y, hy⟩ : ∃ y, y = b + s := ⟨_, rfl⟩
    have wx : IntKind.i64.wrap ((a : Int) + (s : Int)) = (x : Int) := wrap_n _ _ (by omega) (by omega)
    have wy : IntKind.i64.wrap ((b : Int) + (s : Int)) = (y : Int) := wrap_n _ _ (by omega) (by omega)
    have lx : x < n := by omega
    have ly : y < n := by omega
    have hg2 : upf (upf g x (g y)) y (g x) = swf f a b (s + 1) := by
      funext k; rw [hg]; simp only [upf, swf, hx, hy]
      repeat' split
      all_goals (first | omega | rfl | (congr 1; omega))
    refine ⟨(s + 1, upf (upf g x (g y)) y (g x)), ?_, ⟨hlt, hg2⟩, by simp only; omega⟩
    clear hg2 hg
    simp (config := { maxSteps := 1000000 }) [↓ev_loop, ev, evOps, evOp, wants, req, reqCall, inOf, evOpd, ofConst, ofCell, hands, Ann.mem, Env.get, Env.set, gives, handT, Op.operands, Call.operands, meet, putD, params, AV.strip, keepAt, lookN, Env.keep, binAV, intBinAV, headId, tidy, flagOp, nilConst, List.filterMap_cons, List.filterMap_nil, outOf, resAll, resOf, reifyR, reify, reifyP, clo, cloL, cloLL, cloEnv, loadBox, storeBox, okPut, buildElems, buildCells, int_beq, int_bne, evDraw, evOpsD, evOpD, meetD, numbered, newsOf, newsIn, footsOk, apartF, clash, prec, Region.binds, h0, hw, wx, wy, hq, get_q0 hq, atArr, loadArr, storeArr, lx, ly, tab_get, tab_set, take_q0]
  · right
    have h0 : ¬ (s : Int) < (m : Int) := by omega
    have : s = m := by omega
    subst this
    simp [↓ev_loop, ev, evOps, evOp, wants, req, reqCall, inOf, evOpd, ofConst, ofCell, hands, Ann.mem, Env.get, Env.set, gives, handT, Op.operands, Call.operands, meet, putD, params, AV.strip, keepAt, lookN, Env.keep, binAV, intBinAV, headId, tidy, flagOp, nilConst, List.filterMap_cons, List.filterMap_nil, outOf, resAll, resOf, reifyR, reify, reifyP, clo, cloL, cloLL, cloEnv, loadBox, storeBox, okPut, buildElems, buildCells, int_beq, int_bne, h0, S, hg]
end Go.Proofs.Ytlpilgnjlnepeaa.T
namespace Go.Proofs.Ytlpilgnjlnepeaa.T
open Go.VM Go.Proofs
set_option linter.unusedSimpArgs false
set_option maxHeartbeats 16000000
set_option maxRecDepth 10000

theorem out_of {r : Option Out} {Q : Ex → Env → List AO → Prop} (x : Ex) (e : Env) (H : List AO) (h : r = some (x, e, H)) (hn : x ≠ .normal) (hq : Q x e H) :
    (match (generalizing := false) r with | some (x, e', H') => x ≠ .normal ∧ Q x e' H' | none => False) := by
  rw [h]; exact ⟨hn, hq⟩
theorem swap89 (f : Nat → Act) (q v a b m n : Nat) (cm : AV) (hn : n ≤ 100000) (hab : a + m ≤ b) (hb : b + m ≤ n) (bs : List Nat) (H : List AO) (hq : q < H.length) :
    callD X 89 [.arr q v 0 n, I a, I b, I m, cm] bs (H.set q (.arr v (tab f n))) = some (.tup [], H.set q (.arr v (tab (swf f a b m) n))) := by
  rw [callD_eq]
  simp only [Xprim]
  unfold runBody
  simp only [XP, Try.func89, Xan89, Xok89]
  obtain ⟨c0, hc0⟩ : ∃ c, (loops (Try.f89.body.getD .skip))[0]? = some c := ⟨_, rfl⟩
  have hd0 := hc0
  simp only [Try.f89, loops, List.cons_append, List.nil_append, List.append_nil, List.getElem?_cons_zero, List.getElem?_cons_succ, Option.getD_some, Option.some.injEq] at hd0
  simp only [Try.f89]
  (try rw [hd0])
  obtain ⟨x, e', H', h1, rfl, rfl⟩ := lp89 f q v a b m n cm (H.length :: bs) H c0 hc0 hq hn hab hb
  simp only [S, List.map_nil, Int.ofNat_eq_natCast, Int.natCast_zero, List.length_append, List.length_cons, List.length_nil, Nat.zero_add, Nat.reduceAdd] at h1
  simp [↓ev_loop, ev, evOps, evOp, wants, req, reqCall, inOf, evOpd, ofConst, ofCell, hands, Ann.mem, Env.get, Env.set, gives, handT, Op.operands, Call.operands, meet, putD, params, AV.strip, keepAt, lookN, Env.keep, binAV, intBinAV, headId, tidy, flagOp, nilConst, List.filterMap_cons, List.filterMap_nil, outOf, resAll, resOf, reifyR, reify, reifyP, clo, cloL, cloLL, cloEnv, loadBox, storeBox, okPut, buildElems, buildCells, int_beq, int_bne, h1, take_q0]
/-! one row of a part for another -/
def Mix (a b n : Nat) (f g : Nat → Act) : Prop :=
  (∀ k, k < a ∨ b ≤ k → g k = f k) ∧ (∀ k, a ≤ k → k < b → ∃ j, a ≤ j ∧ j < b ∧ g k = f j) ∧ ((List.range n).map g).Perm ((List.range n).map f)
theorem Mix.refl (a b n : Nat) (f : Nat → Act) : Mix a b n f f := ⟨fun _ _ => rfl, fun k h1 h2 => ⟨k, h1, h2, rfl⟩, List.Perm.refl _⟩
theorem Mix.trans {a b n : Nat} {f g h : Nat → Act} (h1 : Mix a b n f g) (h2 : Mix a b n g h) : Mix a b n f h := by
  refine ⟨fun k hk => (h2.1 k hk).trans (h1.1 k hk), fun k ha hb => ?_, h2.2.2.trans h1.2.2⟩
  obtain ⟨j, j1, j2, j3⟩ := h2.2.1 k ha hb
  obtain ⟨i, i1, i2, i3⟩ := h1.2.1 j j1 j2
  exact ⟨i, i1, i2, j3.trans i3⟩
theorem Mix.mono {a b a' b' n : Nat} {f g : Nat → Act} (h : Mix a b n f g) (h1 : a' ≤ a) (h2 : b ≤ b') : Mix a' b' n f g := by
  refine ⟨fun k hk => h.1 k (by omega), fun k ha hb => ?_, h.2.2⟩
  by_cases hk : a ≤ k ∧ k < b
  · obtain ⟨j, j1, j2, j3⟩ := h.2.1 k hk.1 hk.2
    exact ⟨j, by omega, by omega, j3⟩
  · exact ⟨k, ha, hb, h.1 k (by omega)⟩
theorem mix_swap {a b n : Nat} (f : Nat → Act) (i j : Nat) (hi : a ≤ i) (hi2 : i < b) (hj : a ≤ j) (hj2 : j < b) (hb : b ≤ n) : Mix a b n f (upf (upf f i (f j)) j (f i)) := by
  refine ⟨fun k hk => ?_, fun k ha hb => ?_, ?_⟩
  · simp only [upf]; rw [if_neg (by omega), if_neg (by omega)]
  · simp only [upf]
    split
    · exact ⟨i, hi, hi2, rfl⟩
    · split
      · exact ⟨j, hj, hj2, rfl⟩
      · exact ⟨k, ha, hb, rfl⟩
  · have h := @List.set_set_perm Act ((List.range n).map f) i j (by simp; omega) (by simp; omega)
    have e : (List.range n).map (upf (upf f i (f j)) j (f i)) = (((List.range n).map f).set i (((List.range n).map f)[j]'(by simp; omega))).set j (((List.range n).map f)[i]'(by simp; omega)) := by
      apply List.ext_getElem (by simp)
      intro k h1 h2
      simp only [List.getElem_set, List.getElem_map, List.getElem_range, upf]
      by_cases hk : j = k
      · simp [hk]
      · by_cases hk2 : i = k
        · simp [hk, hk2, Ne.symm hk]
        · simp [hk, hk2, Ne.symm hk, Ne.symm hk2]
    rw [e]; exact h
theorem swf_succ (f : Nat → Act) (a b s : Nat) (h : a + s < b) : upf (upf (swf f a b s) (a + s) (swf f a b s (b + s))) (b + s) (swf f a b s (a + s)) = swf f a b (s + 1) := by
  funext k; simp only [upf, swf]
  repeat' split
  all_goals (first | omega | rfl | (congr 1; omega))
theorem swf_zero (f : Nat → Act) (a b : Nat) : swf f a b 0 = f := by funext k; simp [swf]; split; omega; split; omega; rfl
theorem mix_swf {lo hi n : Nat} (f : Nat → Act) (a b : Nat) : ∀ m, lo ≤ a → a + m ≤ b → b + m ≤ hi → hi ≤ n → Mix lo hi n f (swf f a b m) := by
  intro m
  induction m with
  | zero => intro _ _ _ _; rw [swf_zero]; exact Mix.refl _ _ _ _
  | succ m ih =>
    intro h1 h2 h3 h4
    rw [← swf_succ f a b m (by omega)]
    exact (ih h1 (by omega) (by omega) h4).trans (mix_swap _ _ _ (by omega) (by omega) (by omega) (by omega) h4)
/-- turning: [a, m) and [m, b) change places -/
def rotf (f : Nat → Act) (a m b : Nat) : Nat → Act := fun k => if a ≤ k ∧ k < a + (b - m) then f (k + m - a) else if a + (b - m) ≤ k ∧ k < b then f (k - (b - m)) else f k
theorem rot_gt (g : Nat → Act) (m i j : Nat) (h1 : j < i) (h2 : i ≤ m) : rotf g (m - i) m (m + j) = rotf (swf g (m - i) m j) (m - (i - j)) m (m + j) := by
  funext k; simp only [rotf, swf]
  repeat' split
  all_goals (first | omega | rfl | (congr 1; omega))
theorem rot_lt (g : Nat → Act) (m i j : Nat) (h1 : i < j) (h2 : i ≤ m) : rotf g (m - i) m (m + j) = rotf (swf g (m - i) (m + j - i) i) (m - i) m (m + (j - i)) := by
  funext k; simp only [rotf, swf]
  repeat' split
  all_goals (first | omega | rfl | (congr 1; omega))
theorem rot_eq (g : Nat → Act) (m i : Nat) (h2 : i ≤ m) : rotf g (m - i) m (m + i) = swf g (m - i) m i := by
  funext k; simp only [rotf, swf]
  repeat' split
  all_goals (first | omega | rfl | (congr 1; omega))

theorem lp77 (f : Nat → Act) (q v a m b n : Nat) (bs : List Nat) (H : List AO) (c0 : Code) (hc0 : (loops (Try.f77.body.getD .skip))[0]? = some c0) (hq : q < H.length) (hn : n ≤ 100000) (ham : a < m) (hmb : m < b) (hb : b ≤ n) :
    ∃ x e' H', lev Try.prog an77 (callD X) c0 bs ((fun s : Nat × Nat × (Nat → Act) => [(0, .arr q v 0 n), (2, I m), (4, .func 42 [] []), (10, I s.1), (11, I s.2.1)]) ((m - a, b - m, f))) ((fun s : Nat × Nat × (Nat → Act) => H.set q (.arr v (tab s.2.2 n))) ((m - a, b - m, f))) = some (x, e', H') ∧ (∃ (i : Nat) (g : Nat → Act), H' = H.set q (.arr v (tab g n)) ∧ x = .exit 0 ∧ e'.get 0 = .arr q v 0 n ∧ e'.get 2 = I m ∧ e'.get 4 = .func 42 [] [] ∧ e'.get 10 = I i ∧ 0 < i ∧ i ≤ m - a ∧ i ≤ b - m ∧ rotf f a m b = swf g (m - i) m i ∧ Mix a b n f g) := by
  simp only [Try.f77, loops, List.cons_append, List.nil_append, List.append_nil, List.getElem?_cons_zero, List.getElem?_cons_succ, Option.getD_some, Option.some.injEq] at hc0
  refine lev_inv (σ := Nat × Nat × (Nat → Act)) (fun s => [(0, .arr q v 0 n), (2, I m), (4, .func 42 [] []), (10, I s.1), (11, I s.2.1)]) (fun s => H.set q (.arr v (tab s.2.2 n))) (fun s => 0 < s.1 ∧ 0 < s.2.1 ∧ s.1 ≤ m - a ∧ s.2.1 ≤ b - m ∧ rotf f a m b = rotf s.2.2 (m - s.1) m (m + s.2.1) ∧ Mix a b n f s.2.2) (fun s => s.1 + s.2.1) (fun x e' H' => ∃ (i : Nat) (g : Nat → Act), H' = H.set q (.arr v (tab g n)) ∧ x = .exit 0 ∧ e'.get 0 = .arr q v 0 n ∧ e'.get 2 = I m ∧ e'.get 4 = .func 42 [] [] ∧ e'.get 10 = I i ∧ 0 < i ∧ i ≤ m - a ∧ i ≤ b - m ∧ rotf f a m b = swf g (m - i) m i ∧ Mix a b n f g) ((m - a, b - m, f)) ?_ ?_ ?_ ?_ ?_
  · refine ⟨by simp only; omega, by simp only; omega, Nat.le_refl _, Nat.le_refl _, ?_, Mix.refl _ _ _ _⟩; simp only; rw [show m - (m - a) = a by omega, show m + (b - m) = b by omega]
  · intro s hs; simp
  · intro s hs; simp [cloEnv, clo, cloL, S, hq]
  · intro s hs; subst hc0; simp [keepAt, headId, lookN, Env.keep, Env.get]
  intro s hs
  subst hc0
  obtain ⟨i, j, g⟩ := s
  obtain ⟨hi, hj, hi2, hj2, hr, hx⟩ := hs
  simp only at hi hj hi2 hj2 hr hx ⊢
  by_cases hij : i = j
  · right
    subst hij
    refine out_of (.exit 0) [(0, .arr q v 0 n), (2, I m), (4, .func 42 [] []), (10, I i), (11, I i), (20, .bool false)] (H.set q (.arr v (tab g n))) ?_ (by simp) ?_
    · simp [↓ev_loop, ev, evOps, evOp, wants, req, reqCall, inOf, evOpd, ofConst, ofCell, hands, Ann.mem, Env.get, Env.set, gives, handT, Op.operands, Call.operands, meet, putD, params, AV.strip, keepAt, lookN, Env.keep, binAV, intBinAV, headId, tidy, flagOp, nilConst, List.filterMap_cons, List.filterMap_nil, outOf, resAll, resOf, reifyR, reify, reifyP, clo, cloL, cloLL, cloEnv, loadBox, storeBox, okPut, buildElems, buildCells, int_beq, int_bne]
    · exact ⟨i, g, rfl, rfl, rfl, rfl, rfl, rfl, hi, hi2, hj2, by rw [hr, rot_eq _ _ _ (by omega)], hx⟩
  · left
    have hij2 : ¬ ((i : Int) = (j : Int)) := by omega
    obtain ⟨x, hx1⟩ : ∃ x, x = m - i := ⟨_, rfl⟩
    have w1 : IntKind.i64.wrap ((m : Int) - (i : Int)) = (x : Int) := wrap_n _ _ (by omega) (by omega)
    by_cases hgt : j < i
    · have hgt2 : (j : Int) < (i : Int) := by omega
      obtain ⟨y, hy1⟩ : ∃ y, y = i - j := ⟨_, rfl⟩
      have w2 : IntKind.i64.wrap ((i : Int) - (j : Int)) = (y : Int) := wrap_n _ _ (by omega) (by omega)
      have h89 := fun bs => swap89 g q v x m j n (.func 42 [] []) hn (by omega) (by omega) bs H hq
      refine ⟨(y, j, swf g x m j), ?_, ⟨by simp only; omega, hj, by simp only; omega, hj2, ?_, ?_⟩, by simp only; omega⟩
      · simp [↓ev_loop, ev, evOps, evOp, wants, req, reqCall, inOf, evOpd, ofConst, ofCell, hands, Ann.mem, Env.get, Env.set, gives, handT, Op.operands, Call.operands, meet, putD, params, AV.strip, keepAt, lookN, Env.keep, binAV, intBinAV, headId, tidy, flagOp, nilConst, List.filterMap_cons, List.filterMap_nil, outOf, resAll, resOf, reifyR, reify, reifyP, clo, cloL, cloLL, cloEnv, loadBox, storeBox, okPut, buildElems, buildCells, int_beq, int_bne, hij, hij2, hgt, hgt2, w1, w2, h89, take_q0]
      · simp only; rw [hr, rot_gt g m i j hgt (by omega), hx1, hy1]
      · exact hx.trans (mix_swf g x m j (by omega) (by omega) (by omega) hb)
    · have hgt2 : ¬ (j : Int) < (i : Int) := by omega
      obtain ⟨y, hy1⟩ : ∃ y, y = j - i := ⟨_, rfl⟩
      obtain ⟨z, hz1⟩ : ∃ z, z = m + j := ⟨_, rfl⟩
      obtain ⟨u, hu1⟩ : ∃ u, u = m + j - i := ⟨_, rfl⟩
      have w2 : IntKind.i64.wrap ((j : Int) - (i : Int)) = (y : Int) := wrap_n _ _ (by omega) (by omega)
      have w3 : IntKind.i64.wrap ((m : Int) + (j : Int)) = (z : Int) := wrap_n _ _ (by omega) (by omega)
      have w4 : IntKind.i64.wrap ((z : Int) - (i : Int)) = (u : Int) := wrap_n _ _ (by omega) (by omega)
      have h89 := fun bs => swap89 g q v x u i n (.func 42 [] []) hn (by omega) (by omega) bs H hq
      refine ⟨(i, y, swf g x u i), ?_, ⟨hi, by simp only; omega, hi2, by simp only; omega, ?_, ?_⟩, by simp only; omega⟩
      · simp [↓ev_loop, ev, evOps, evOp, wants, req, reqCall, inOf, evOpd, ofConst, ofCell, hands, Ann.mem, Env.get, Env.set, gives, handT, Op.operands, Call.operands, meet, putD, params, AV.strip, keepAt, lookN, Env.keep, binAV, intBinAV, headId, tidy, flagOp, nilConst, List.filterMap_cons, List.filterMap_nil, outOf, resAll, resOf, reifyR, reify, reifyP, clo, cloL, cloLL, cloEnv, loadBox, storeBox, okPut, buildElems, buildCells, int_beq, int_bne, hij, hij2, hgt, hgt2, w1, w2, w3, w4, h89, take_q0]
      · simp only; rw [hr, rot_lt g m i j (by omega) (by omega), hx1, hy1, hu1]
      · exact hx.trans (mix_swf g x u i (by omega) (by omega) (by omega) hb)
theorem rot77 (f : Nat → Act) (q v a m b n : Nat) (hn : n ≤ 100000) (ham : a < m) (hmb : m < b) (hb : b ≤ n) (bs : List Nat) (H : List AO) (hq : q < H.length) :
    callD X 77 [.arr q v 0 n, I a, I m, I b, .func 42 [] []] bs (H.set q (.arr v (tab f n))) = some (.tup [], H.set q (.arr v (tab (rotf f a m b) n))) ∧ Mix a b n f (rotf f a m b) := by
  have main : ∃ g, callD X 77 [.arr q v 0 n, I a, I m, I b, .func 42 [] []] bs (H.set q (.arr v (tab f n))) = some (.tup [], H.set q (.arr v (tab g n))) ∧ g = rotf f a m b ∧ Mix a b n f g := by
    obtain ⟨x, hx1⟩ : ∃ x, x = m - a := ⟨_, rfl⟩
    obtain ⟨y, hy1⟩ : ∃ y, y = b - m := ⟨_, rfl⟩
    have w1 : IntKind.i64.wrap ((m : Int) - (a : Int)) = (x : Int) := wrap_n _ _ (by omega) (by omega)
    have w2 : IntKind.i64.wrap ((b : Int) - (m : Int)) = (y : Int) := wrap_n _ _ (by omega) (by omega)
    rw [callD_eq]
    simp only [Xprim]
    unfold runBody
    simp only [XP, Try.func77, Xan77, Xok77]
    obtain ⟨c0, hc0⟩ : ∃ c, (loops (Try.f77.body.getD .skip))[0]? = some c := ⟨_, rfl⟩
    have hd0 := hc0
    simp only [Try.f77, loops, List.cons_append, List.nil_append, List.append_nil, List.getElem?_cons_zero, List.getElem?_cons_succ, Option.getD_some, Option.some.injEq] at hd0
    simp only [Try.f77]
    (try rw [hd0])
    obtain ⟨x0, e', H', h1, i, g, rfl, rfl, g0, g2, g4, g10, hi, hi2, hi3, hr, hm⟩ := lp77 f q v a m b n (H.length :: bs) H c0 hc0 hq hn ham hmb hb
    simp only [S, List.map_nil, Int.ofNat_eq_natCast, Int.natCast_zero, List.length_append, List.length_cons, List.length_nil, Nat.zero_add, Nat.reduceAdd] at h1
    rw [← hx1, ← hy1] at h1
    obtain ⟨z, hz1⟩ : ∃ z, z = m - i := ⟨_, rfl⟩
    have w3 : IntKind.i64.wrap ((m : Int) - (i : Int)) = (z : Int) := wrap_n _ _ (by omega) (by omega)
    have h89 := fun bs => swap89 g q v z m i n (.func 42 [] []) hn (by omega) (by omega) bs H hq
    refine ⟨swf g z m i, ?_, by rw [hr, hz1], hm.trans (mix_swf g z m i (by omega) (by omega) (by omega) hb)⟩
    simp [↓ev_loop, ev, evOps, evOp, wants, req, reqCall, inOf, evOpd, ofConst, ofCell, hands, Ann.mem, Env.get, Env.set, gives, handT, Op.operands, Call.operands, meet, putD, params, AV.strip, keepAt, lookN, Env.keep, binAV, intBinAV, headId, tidy, flagOp, nilConst, List.filterMap_cons, List.filterMap_nil, outOf, resAll, resOf, reifyR, reify, reifyP, clo, cloL, cloLL, cloEnv, loadBox, storeBox, okPut, buildElems, buildCells, int_beq, int_bne, w1, w2, w3, h1, g0, g2, g4, g10, h89, take_q0]
  obtain ⟨g, h1, rfl, h2⟩ := main
  exact ⟨h1, h2⟩
end Go.Proofs.Ytlpilgnjlnepeaa.T
namespace Go.Proofs.Ytlpilgnjlnepeaa.T
open Go.VM Go.Proofs
set_option linter.unusedSimpArgs false
set_option maxHeartbeats 16000000
set_option maxRecDepth 10000

/-! the order -/
def leA (x y : Act) : Prop := x.day < y.day ∨ (x.day = y.day ∧ x.number ≤ y.number)
theorem leA_trans {x y z : Act} (h1 : leA x y) (h2 : leA y z) : leA x z := by unfold leA at *; omega
theorem leA_total (x y : Act) : leA x y ∨ leA y x := by unfold leA; omega
theorem leA_refl (x : Act) : leA x x := by unfold leA; omega
theorem ahead_iff (x y : Act) : aheadB x y = true ↔ ¬ leA y x := by
  unfold aheadB leA; split <;> simp only [decide_eq_true_eq] <;> omega
theorem cmp_neg (x y : Act) : ∃ z : Int, (∀ bs H, callD X 42 [.agg (cAct x), .agg (cAct y)] bs H = some (I z, H)) ∧ (decide (z < 0)) = aheadB x y := by
  refine ⟨_, fun bs H => cmp42 x y bs H, ?_⟩
  unfold orZ orZ orZ cz aheadB
  by_cases h1 : x.day < y.day
  · have : ¬ x.day = y.day := by omega
    simp [h1, this]
  · by_cases h2 : y.day < x.day
    · have : ¬ x.day = y.day := by omega
      simp [h1, h2, this]
    · have : x.day = y.day := by omega
      by_cases h3 : x.number < y.number
      · simp [this, h3]
      · by_cases h4 : y.number < x.number <;> simp [this, h3, h4]
def SW (f : Nat → Act) (a b : Nat) : Prop := ∀ i j, a ≤ i → i < j → j < b → leA (f i) (f j)

theorem lp69_1 (f : Nat → Act) (q v a b n i : Nat) (bs : List Nat) (H : List AO) (c1 : Code) (hc1 : (loops (Try.f69.body.getD .skip))[1]? = some c1) (hq : q < H.length) (hn : n ≤ 100000) (hai : a < i) (hib : i < b) (hb : b ≤ n) (hsw : SW f a i) :
    ∃ x e' H', lev Try.prog an69 (callD X) c1 bs ((fun s : Nat × (Nat → Act) => [(0, .arr q v 0 n), (1, I a), (2, I b), (3, .func 42 [] []), (8, I i), (9, I s.1)]) ((i, f))) ((fun s : Nat × (Nat → Act) => H.set q (.arr v (tab s.2 n))) ((i, f))) = some (x, e', H') ∧ (∃ g : Nat → Act, H' = H.set q (.arr v (tab g n)) ∧ x = .exit 2 ∧ e'.get 0 = .arr q v 0 n ∧ e'.get 1 = I a ∧ e'.get 2 = I b ∧ e'.get 3 = .func 42 [] [] ∧ e'.get 8 = I i ∧ SW g a (i + 1) ∧ Mix a b n f g) := by
  simp only [Try.f69, loops, List.cons_append, List.nil_append, List.append_nil, List.getElem?_cons_zero, List.getElem?_cons_succ, Option.getD_some, Option.some.injEq] at hc1
  refine lev_inv (σ := Nat × (Nat → Act)) (fun s => [(0, .arr q v 0 n), (1, I a), (2, I b), (3, .func 42 [] []), (8, I i), (9, I s.1)]) (fun s => H.set q (.arr v (tab s.2 n))) (fun s => a ≤ s.1 ∧ s.1 ≤ i ∧ Mix a b n f s.2 ∧ (∀ p r, a ≤ p → p < r → r ≤ i → p ≠ s.1 → r ≠ s.1 → leA (s.2 p) (s.2 r)) ∧ (∀ r, s.1 < r → r ≤ i → leA (s.2 s.1) (s.2 r))) (fun s => s.1) (fun x e' H' => ∃ g : Nat → Act, H' = H.set q (.arr v (tab g n)) ∧ x = .exit 2 ∧ e'.get 0 = .arr q v 0 n ∧ e'.get 1 = I a ∧ e'.get 2 = I b ∧ e'.get 3 = .func 42 [] [] ∧ e'.get 8 = I i ∧ SW g a (i + 1) ∧ Mix a b n f g) ((i, f)) ?_ ?_ ?_ ?_ ?_
  · refine ⟨Nat.le_of_lt hai, Nat.le_refl _, Mix.refl _ _ _ _, fun p r h1 h2 h3 h4 h5 => hsw p r h1 h2 ?_, fun r h1 h2 => ?_⟩ <;> simp only at * <;> omega
  · intro s hs; simp
  · intro s hs; simp [cloEnv, clo, cloL, S, hq]
  · intro s hs; subst hc1; simp [keepAt, headId, lookN, Env.keep, Env.get]
  intro s hs
  subst hc1
  obtain ⟨j, g⟩ := s
  obtain ⟨h1, h2, hm, hs1, hs2⟩ := hs
  simp only at h1 h2 hm hs1 hs2 ⊢
  by_cases hja : a < j
  · have hja2 : (a : Int) < (j : Int) := by omega
    obtain ⟨y, hy⟩ : ∃ y, y = j - 1 := ⟨_, rfl⟩
    have w1 : IntKind.i64.wrap ((j : Int) - 1) = (y : Int) := wrap_n _ _ (by omega) (by omega)
    have lj : j < n := by omega
    have ly : y < n := by omega
    obtain ⟨z, hz, hz2⟩ := cmp_neg (g j) (g y)
    by_cases ha : aheadB (g j) (g y) = true
    · left
      rw [ha, decide_eq_true_eq] at hz2
      have hle : leA (g j) (g y) := by
        rcases leA_total (g j) (g y) with h | h
        · exact h
        · exact absurd h ((ahead_iff _ _).1 ha)
      refine ⟨(y, upf (upf g j (g y)) y (g j)), ?_, ⟨by simp only; omega, by simp only; omega, hm.trans (mix_swap g j y (by omega) (by omega) (by omega) (by omega) hb), ?_, ?_⟩, by simp only; omega⟩
      · simp (config := { maxSteps := 1000000 }) [↓ev_loop, ev, evOps, evOp, wants, req, reqCall, inOf, evOpd, ofConst, ofCell, hands, Ann.mem, Env.get, Env.set, gives, handT, Op.operands, Call.operands, meet, putD, params, AV.strip, keepAt, lookN, Env.keep, binAV, intBinAV, headId, tidy, flagOp, nilConst, List.filterMap_cons, List.filterMap_nil, outOf, resAll, resOf, reifyR, reify, reifyP, clo, cloL, cloLL, cloEnv, loadBox, storeBox, okPut, buildElems, buildCells, int_beq, int_bne, evDraw, evOpsD, evOpD, meetD, numbered, newsOf, newsIn, footsOk, apartF, clash, prec, Region.binds, hja, hja2, w1, hz, hz2, hq, get_q0 hq, atArr, loadArr, storeArr, lj, ly, tab_get, tab_set, take_q0]
      · intro p r c1 c2 c3 c4 c5
        simp only at c4 c5 ⊢
        simp only [upf, if_neg c4, if_neg c5]
        by_cases k1 : p = j
        · subst k1; rw [if_pos rfl, if_neg (by omega)]
          exact hs1 y r (by omega) (by omega) c3 (by omega) (by omega)
        · by_cases k2 : r = j
          · subst k2; rw [if_pos rfl, if_neg k1]
            exact hs1 p y c1 (by omega) (by omega) k1 (by omega)
          · rw [if_neg k1, if_neg k2]; exact hs1 p r c1 c2 c3 k1 k2
      · intro r c1 c2
        simp only at c1 ⊢
        simp only [upf, if_true]
        rw [if_neg (by omega)]
        by_cases k1 : r = j
        · rw [if_pos k1]; exact hle
        · rw [if_neg k1]; exact hs2 r (by omega) c2
    · right
      have hz3 : ¬ z < 0 := by intro h; rw [decide_eq_true h] at hz2; exact ha hz2.symm
      refine out_of (.exit 2) [(0, .arr q v 0 n), (1, I a), (2, I b), (3, .func 42 [] []), (8, I i), (9, I j), (34, .bool false)] (H.set q (.arr v (tab g n))) ?_ (by simp) ?_
      · simp [↓ev_loop, ev, evOps, evOp, wants, req, reqCall, inOf, evOpd, ofConst, ofCell, hands, Ann.mem, Env.get, Env.set, gives, handT, Op.operands, Call.operands, meet, putD, params, AV.strip, keepAt, lookN, Env.keep, binAV, intBinAV, headId, tidy, flagOp, nilConst, List.filterMap_cons, List.filterMap_nil, outOf, resAll, resOf, reifyR, reify, reifyP, clo, cloL, cloLL, cloEnv, loadBox, storeBox, okPut, buildElems, buildCells, int_beq, int_bne, evDraw, evOpsD, evOpD, meetD, numbered, newsOf, newsIn, footsOk, apartF, clash, prec, Region.binds, hja, hja2, w1, hz, hz3, hq, get_q0 hq, atArr, loadArr, storeArr, lj, ly, tab_get, tab_set, take_q0]
      · have hle : leA (g y) (g j) := Classical.not_not.1 (fun h => ha ((ahead_iff _ _).2 h))
        refine ⟨g, rfl, rfl, rfl, rfl, rfl, rfl, rfl, ?_, hm⟩
        intro p r c1 c2 c3
        by_cases k1 : p = j
        · subst k1; exact hs2 r c2 (by omega)
        · by_cases k2 : r = j
          · subst k2
            by_cases k3 : p = y
            · rw [k3]; exact hle
            · exact leA_trans (hs1 p y c1 (by omega) (by omega) k1 (by omega)) hle
          · exact hs1 p r c1 c2 (by omega) k1 k2
  · right
    have hja2 : ¬ (a : Int) < (j : Int) := by omega
    refine out_of (.exit 2) [(0, .arr q v 0 n), (1, I a), (2, I b), (3, .func 42 [] []), (8, I i), (9, I j), (34, .bool false)] (H.set q (.arr v (tab g n))) ?_ (by simp) ?_
    · simp [↓ev_loop, ev, evOps, evOp, wants, req, reqCall, inOf, evOpd, ofConst, ofCell, hands, Ann.mem, Env.get, Env.set, gives, handT, Op.operands, Call.operands, meet, putD, params, AV.strip, keepAt, lookN, Env.keep, binAV, intBinAV, headId, tidy, flagOp, nilConst, List.filterMap_cons, List.filterMap_nil, outOf, resAll, resOf, reifyR, reify, reifyP, clo, cloL, cloLL, cloEnv, loadBox, storeBox, okPut, buildElems, buildCells, int_beq, int_bne, evDraw, evOpsD, evOpD, meetD, numbered, newsOf, newsIn, footsOk, apartF, clash, prec, Region.binds, hja, hja2]
    · refine ⟨g, rfl, rfl, rfl, rfl, rfl, rfl, rfl, ?_, hm⟩
      intro p r c1 c2 c3
      by_cases k1 : p = j
      · subst k1; exact hs2 r c2 (by omega)
      · exact hs1 p r c1 c2 (by omega) k1 (by omega)
end Go.Proofs.Ytlpilgnjlnepeaa.T
namespace Go.Proofs.Ytlpilgnjlnepeaa.T
open Go.VM Go.Proofs
set_option linter.unusedSimpArgs false
set_option maxHeartbeats 16000000
set_option maxRecDepth 10000

theorem lp69_0 (f : Nat → Act) (q v a b n : Nat) (bs : List Nat) (H : List AO) (c0 : Code) (hc0 : (loops (Try.f69.body.getD .skip))[0]? = some c0) (c1 : Code) (hc1 : (loops (Try.f69.body.getD .skip))[1]? = some c1) (hq : q < H.length) (hn : n ≤ 100000) (hab : a ≤ b) (hb : b ≤ n) :
    ∃ x e' H', lev Try.prog an69 (callD X) c0 bs ((fun s : Nat × (Nat → Act) => [(0, .arr q v 0 n), (1, I a), (2, I b), (3, .func 42 [] []), (8, I s.1)]) ((a + 1, f))) ((fun s : Nat × (Nat → Act) => H.set q (.arr v (tab s.2 n))) ((a + 1, f))) = some (x, e', H') ∧ (∃ g : Nat → Act, H' = H.set q (.arr v (tab g n)) ∧ x = .exit 0 ∧ SW g a b ∧ Mix a b n f g) := by
  have hc1' := hc1
  simp only [Try.f69, loops, List.cons_append, List.nil_append, List.append_nil, List.getElem?_cons_zero, List.getElem?_cons_succ, Option.getD_some, Option.some.injEq] at hc0
  simp only [Try.f69, loops, List.cons_append, List.nil_append, List.append_nil, List.getElem?_cons_zero, List.getElem?_cons_succ, Option.getD_some, Option.some.injEq] at hc1
  refine lev_inv (σ := Nat × (Nat → Act)) (fun s => [(0, .arr q v 0 n), (1, I a), (2, I b), (3, .func 42 [] []), (8, I s.1)]) (fun s => H.set q (.arr v (tab s.2 n))) (fun s => a + 1 ≤ s.1 ∧ (s.1 ≤ b ∨ s.1 = a + 1) ∧ Mix a b n f s.2 ∧ SW s.2 a s.1) (fun s => b - s.1) (fun x e' H' => ∃ g : Nat → Act, H' = H.set q (.arr v (tab g n)) ∧ x = .exit 0 ∧ SW g a b ∧ Mix a b n f g) ((a + 1, f)) ?_ ?_ ?_ ?_ ?_
  · refine ⟨Nat.le_refl _, .inr rfl, Mix.refl _ _ _ _, ?_⟩; intro p r h1 h2 h3; simp only at h3; omega
  · intro s hs; simp
  · intro s hs; simp [cloEnv, clo, cloL, S, hq]
  · intro s hs; subst hc0; simp [keepAt, headId, lookN, Env.keep, Env.get]
  intro s hs
  subst hc0
  (try rw [hc1])
  obtain ⟨i, g⟩ := s
  obtain ⟨h1, h2, hm, hs⟩ := hs
  simp only at h1 h2 hm hs ⊢
  by_cases hib : i < b
  · left
    have hib2 : (i : Int) < (b : Int) := by omega
    have hw := wrap_s i (by omega)
    obtain ⟨x, e', H', h3, g', rfl, rfl, g0, g1, g2, g3, g8, hs2, hm2⟩ := lp69_1 g q v a b n i (H.length :: bs) H c1 hc1' hq hn (by omega) hib hb hs
    simp only [S, List.map_nil, Int.ofNat_eq_natCast, Int.natCast_zero, List.length_append, List.length_cons, List.length_nil, Nat.zero_add, Nat.reduceAdd] at h3
    refine ⟨(i + 1, g'), ?_, ⟨by simp only; omega, .inl hib, hm.trans hm2, hs2⟩, by simp only; omega⟩
    simp [↓ev_loop, ev, evOps, evOp, wants, req, reqCall, inOf, evOpd, ofConst, ofCell, hands, Ann.mem, Env.get, Env.set, gives, handT, Op.operands, Call.operands, meet, putD, params, AV.strip, keepAt, lookN, Env.keep, binAV, intBinAV, headId, tidy, flagOp, nilConst, List.filterMap_cons, List.filterMap_nil, outOf, resAll, resOf, reifyR, reify, reifyP, clo, cloL, cloLL, cloEnv, loadBox, storeBox, okPut, buildElems, buildCells, int_beq, int_bne, hib, hib2, hw, h3, g0, g1, g2, g3, g8, take_q0]
  · right
    have hib2 : ¬ (i : Int) < (b : Int) := by omega
    refine out_of (.exit 0) [(0, .arr q v 0 n), (1, I a), (2, I b), (3, .func 42 [] []), (8, I i), (14, .bool false)] (H.set q (.arr v (tab g n))) ?_ (by simp) ?_
    · simp [↓ev_loop, ev, evOps, evOp, wants, req, reqCall, inOf, evOpd, ofConst, ofCell, hands, Ann.mem, Env.get, Env.set, gives, handT, Op.operands, Call.operands, meet, putD, params, AV.strip, keepAt, lookN, Env.keep, binAV, intBinAV, headId, tidy, flagOp, nilConst, List.filterMap_cons, List.filterMap_nil, outOf, resAll, resOf, reifyR, reify, reifyP, clo, cloL, cloLL, cloEnv, loadBox, storeBox, okPut, buildElems, buildCells, int_beq, int_bne, hib, hib2]
    · exact ⟨g, rfl, rfl, fun p r c1 c2 c3 => hs p r c1 c2 (by omega), hm⟩
theorem ins69 (f : Nat → Act) (q v a b n : Nat) (hn : n ≤ 100000) (hab : a ≤ b) (hb : b ≤ n) (bs : List Nat) (H : List AO) (hq : q < H.length) :
    ∃ g, callD X 69 [.arr q v 0 n, I a, I b, .func 42 [] []] bs (H.set q (.arr v (tab f n))) = some (.tup [], H.set q (.arr v (tab g n))) ∧ SW g a b ∧ Mix a b n f g := by
  rw [callD_eq]
  simp only [Xprim]
  unfold runBody
  simp only [XP, Try.func69, Xan69, Xok69]
  obtain ⟨c0, hc0⟩ : ∃ c, (loops (Try.f69.body.getD .skip))[0]? = some c := ⟨_, rfl⟩
  obtain ⟨c1, hc1⟩ : ∃ c, (loops (Try.f69.body.getD .skip))[1]? = some c := ⟨_, rfl⟩
  have hd0 := hc0
  simp only [Try.f69, loops, List.cons_append, List.nil_append, List.append_nil, List.getElem?_cons_zero, List.getElem?_cons_succ, Option.getD_some, Option.some.injEq] at hd0
  have hd1 := hc1
  simp only [Try.f69, loops, List.cons_append, List.nil_append, List.append_nil, List.getElem?_cons_zero, List.getElem?_cons_succ, Option.getD_some, Option.some.injEq] at hd1
  simp only [Try.f69]
  (try rw [hd0])
  (try rw [hd1])
  obtain ⟨x, e', H', h3, g', rfl, rfl, hs2, hm2⟩ := lp69_0 f q v a b n (H.length :: bs) H c0 hc0 c1 hc1 hq hn hab hb
  simp only [S, List.map_nil, Int.ofNat_eq_natCast, Int.natCast_zero, List.length_append, List.length_cons, List.length_nil, Nat.zero_add, Nat.reduceAdd] at h3
  refine ⟨g', ?_, hs2, hm2⟩
  have w1 : IntKind.i64.wrap ((a : Int) + 1) = ((a + 1 : Nat) : Int) := wrap_s a (by omega)
  simp at h3 w1
  simp [↓ev_loop, ev, evOps, evOp, wants, req, reqCall, inOf, evOpd, ofConst, ofCell, hands, Ann.mem, Env.get, Env.set, gives, handT, Op.operands, Call.operands, meet, putD, params, AV.strip, keepAt, lookN, Env.keep, binAV, intBinAV, headId, tidy, flagOp, nilConst, List.filterMap_cons, List.filterMap_nil, outOf, resAll, resOf, reifyR, reify, reifyP, clo, cloL, cloLL, cloEnv, loadBox, storeBox, okPut, buildElems, buildCells, int_beq, int_bne, w1, h3, take_q0]

/-! merging -/
theorem mid_ok (x y : Nat) (hx : x ≤ 100000) (hy : y ≤ 100000) : IntKind.i64.wrap ((IntKind.u64.wrap (IntKind.i64.wrap ((x : Int) + (y : Int)))).fdiv (2 ^ min 1 IntKind.u64.bits)) = ((x + y) / 2 : Nat) := by
  have h0 : IntKind.i64.wrap ((x : Int) + (y : Int)) = (x : Int) + (y : Int) := wrap_i64 _ (by omega) (by omega)
  have h1 : IntKind.u64.wrap ((x : Int) + (y : Int)) = (x : Int) + (y : Int) := by
    simp [IntKind.wrap, IntKind.bits, IntKind.signed]; omega
  have h2 : ((x : Int) + (y : Int)).fdiv (2 ^ min 1 IntKind.u64.bits) = (((x + y) / 2 : Nat) : Int) := by
    rw [show ((2 : Int) ^ min 1 IntKind.u64.bits) = 2 from rfl, Int.fdiv_eq_ediv_of_nonneg _ (by omega)]; omega
  rw [h0, h1, h2, wrap_i64 _ (by omega) (by omega)]

theorem lp70_0 (f : Nat → Act) (q v a m b n : Nat) (bs : List Nat) (H : List AO) (c0 : Code) (hc0 : (loops (Try.f70.body.getD .skip))[0]? = some c0) (hq : q < H.length) (hn : n ≤ 100000) (ham : a < m) (hmb : m ≤ b) (hb : b ≤ n) (hsw : SW f m b) :
    ∃ x e' H', lev Try.prog an70 (callD X) c0 bs ((fun s : Nat × Nat => [(0, .arr q v 0 n), (1, I a), (4, .func 42 [] []), (10, I s.1), (11, I s.2)]) ((m, b))) ((fun s : Nat × Nat => H.set q (.arr v (tab f n))) ((m, b))) = some (x, e', H') ∧ (∃ i : Nat, H' = H.set q (.arr v (tab f n)) ∧ x = .exit 0 ∧ e'.get 0 = .arr q v 0 n ∧ e'.get 1 = I a ∧ e'.get 10 = I i ∧ m ≤ i ∧ i ≤ b ∧ (∀ k, m ≤ k → k < i → aheadB (f k) (f a) = true) ∧ (∀ k, i ≤ k → k < b → ¬ aheadB (f k) (f a) = true)) := by
  simp only [Try.f70, loops, List.cons_append, List.nil_append, List.append_nil, List.getElem?_cons_zero, List.getElem?_cons_succ, Option.getD_some, Option.some.injEq] at hc0
  refine lev_inv (σ := Nat × Nat) (fun s => [(0, .arr q v 0 n), (1, I a), (4, .func 42 [] []), (10, I s.1), (11, I s.2)]) (fun s => H.set q (.arr v (tab f n))) (fun s => m ≤ s.1 ∧ s.1 ≤ s.2 ∧ s.2 ≤ b ∧ (∀ k, m ≤ k → k < s.1 → aheadB (f k) (f a) = true) ∧ (∀ k, s.2 ≤ k → k < b → ¬ aheadB (f k) (f a) = true)) (fun s => s.2 - s.1) (fun x e' H' => ∃ i : Nat, H' = H.set q (.arr v (tab f n)) ∧ x = .exit 0 ∧ e'.get 0 = .arr q v 0 n ∧ e'.get 1 = I a ∧ e'.get 10 = I i ∧ m ≤ i ∧ i ≤ b ∧ (∀ k, m ≤ k → k < i → aheadB (f k) (f a) = true) ∧ (∀ k, i ≤ k → k < b → ¬ aheadB (f k) (f a) = true)) ((m, b)) ?_ ?_ ?_ ?_ ?_
  · refine ⟨Nat.le_refl _, hmb, Nat.le_refl _, fun k h1 h2 => ?_, fun k h1 h2 => ?_⟩ <;> simp only at * <;> omega
  · intro s hs; simp
  · intro s hs; simp [cloEnv, clo, cloL, S, hq]
  · intro s hs; subst hc0; simp [keepAt, headId, lookN, Env.keep, Env.get]
  intro s hs
  subst hc0
  obtain ⟨i, j⟩ := s
  obtain ⟨h1, h2, h3, hs1, hs2⟩ := hs
  simp only at h1 h2 h3 hs1 hs2 ⊢
  by_cases hij : i < j
  · left
    have hij2 : (i : Int) < (j : Int) := by omega
    have hmid := mid_ok i j (by omega) (by omega)
    obtain ⟨h, hh⟩ : ∃ h, h = (i + j) / 2 := ⟨_, rfl⟩
    rw [← hh] at hmid
    have wh : IntKind.i64.wrap ((h : Int) + 1) = ((h + 1 : Nat) : Int) := wrap_s h (by omega)
    have lh : h < n := by omega
    have la : a < n := by omega
    obtain ⟨z, hz, hz2⟩ := cmp_neg (f h) (f a)
    by_cases ha : aheadB (f h) (f a) = true
    · have hz3 : z < 0 := by rw [ha, decide_eq_true_eq] at hz2; exact hz2
      refine ⟨(h + 1, j), ?_, ⟨by simp only; omega, by simp only; omega, h3, ?_, hs2⟩, by simp only; omega⟩
      · simp [↓ev_loop, ev, evOps, evOp, wants, req, reqCall, inOf, evOpd, ofConst, ofCell, hands, Ann.mem, Env.get, Env.set, gives, handT, Op.operands, Call.operands, meet, putD, params, AV.strip, keepAt, lookN, Env.keep, binAV, intBinAV, headId, tidy, flagOp, nilConst, List.filterMap_cons, List.filterMap_nil, outOf, resAll, resOf, reifyR, reify, reifyP, clo, cloL, cloLL, cloEnv, loadBox, storeBox, okPut, buildElems, buildCells, int_beq, int_bne, evDraw, evOpsD, evOpD, meetD, numbered, newsOf, newsIn, footsOk, apartF, clash, prec, Region.binds, hij, hij2, hmid, wh, hz, hz3, hq, get_q0 hq, atArr, loadArr, lh, la, tab_get, take_q0]
      · intro k c1 c2
        simp only at c2
        rw [ahead_iff]; rw [ahead_iff] at ha
        intro hc
        by_cases hk : k = h
        · subst hk; exact ha hc
        · exact ha (leA_trans hc (hsw k h c1 (by omega) (by omega)))
    · have hz3 : ¬ z < 0 := by intro h; rw [decide_eq_true h] at hz2; exact ha hz2.symm
      refine ⟨(i, h), ?_, ⟨h1, by simp only; omega, by simp only; omega, hs1, ?_⟩, by simp only; omega⟩
      · simp [↓ev_loop, ev, evOps, evOp, wants, req, reqCall, inOf, evOpd, ofConst, ofCell, hands, Ann.mem, Env.get, Env.set, gives, handT, Op.operands, Call.operands, meet, putD, params, AV.strip, keepAt, lookN, Env.keep, binAV, intBinAV, headId, tidy, flagOp, nilConst, List.filterMap_cons, List.filterMap_nil, outOf, resAll, resOf, reifyR, reify, reifyP, clo, cloL, cloLL, cloEnv, loadBox, storeBox, okPut, buildElems, buildCells, int_beq, int_bne, evDraw, evOpsD, evOpD, meetD, numbered, newsOf, newsIn, footsOk, apartF, clash, prec, Region.binds, hij, hij2, hmid, wh, hz, hz3, hq, get_q0 hq, atArr, loadArr, lh, la, tab_get, take_q0]
      · intro k c1 c2
        simp only at c1
        rw [ahead_iff, Classical.not_not] at ha ⊢
        by_cases hk : k = h
        · subst hk; exact ha
        · exact leA_trans ha (hsw h k (by omega) (by omega) c2)
  · right
    have hij2 : ¬ (i : Int) < (j : Int) := by omega
    have hij3 : i = j := by omega
    subst hij3
    refine out_of (.exit 0) [(0, .arr q v 0 n), (1, I a), (4, .func 42 [] []), (10, I i), (11, I i), (33, .bool false)] (H.set q (.arr v (tab f n))) ?_ (by simp) ?_
    · simp [↓ev_loop, ev, evOps, evOp, wants, req, reqCall, inOf, evOpd, ofConst, ofCell, hands, Ann.mem, Env.get, Env.set, gives, handT, Op.operands, Call.operands, meet, putD, params, AV.strip, keepAt, lookN, Env.keep, binAV, intBinAV, headId, tidy, flagOp, nilConst, List.filterMap_cons, List.filterMap_nil, outOf, resAll, resOf, reifyR, reify, reifyP, clo, cloL, cloLL, cloEnv, loadBox, storeBox, okPut, buildElems, buildCells, int_beq, int_bne, hij, hij2]
    · exact ⟨i, rfl, rfl, rfl, rfl, rfl, h1, h3, hs1, hs2⟩
end Go.Proofs.Ytlpilgnjlnepeaa.T
namespace Go.Proofs.Ytlpilgnjlnepeaa.T
open Go.VM Go.Proofs
set_option linter.unusedSimpArgs false
set_option maxHeartbeats 16000000
set_option maxRecDepth 10000

def shlf (f : Nat → Act) (a k : Nat) : Nat → Act := fun p => if a ≤ p ∧ p < k then f (p + 1) else if p = k then f a else f p
def shrf (f : Nat → Act) (m k : Nat) : Nat → Act := fun p => if k < p ∧ p ≤ m then f (p - 1) else if p = k then f m else f p

theorem lp70_1 (f : Nat → Act) (q v a b n i : Nat) (bs : List Nat) (H : List AO) (c1 : Code) (hc1 : (loops (Try.f70.body.getD .skip))[1]? = some c1) (hq : q < H.length) (hn : n ≤ 100000) (hai : a < i) (hib : i ≤ b) (hb : b ≤ n) :
    ∃ x e' H', lev Try.prog an70 (callD X) c1 bs ((fun s : Nat × (Nat → Act) => [(0, .arr q v 0 n), (10, I i), (13, I s.1)]) ((a, f))) ((fun s : Nat × (Nat → Act) => H.set q (.arr v (tab s.2 n))) ((a, f))) = some (x, e', H') ∧ (H' = H.set q (.arr v (tab (shlf f a (i - 1)) n)) ∧ x = .exit 2 ∧ Mix a b n f (shlf f a (i - 1))) := by
  simp only [Try.f70, loops, List.cons_append, List.nil_append, List.append_nil, List.getElem?_cons_zero, List.getElem?_cons_succ, Option.getD_some, Option.some.injEq] at hc1
  refine lev_inv (σ := Nat × (Nat → Act)) (fun s => [(0, .arr q v 0 n), (10, I i), (13, I s.1)]) (fun s => H.set q (.arr v (tab s.2 n))) (fun s => a ≤ s.1 ∧ s.1 ≤ i - 1 ∧ s.2 = shlf f a s.1 ∧ Mix a b n f s.2) (fun s => i - s.1) (fun x e' H' => H' = H.set q (.arr v (tab (shlf f a (i - 1)) n)) ∧ x = .exit 2 ∧ Mix a b n f (shlf f a (i - 1))) ((a, f)) ?_ ?_ ?_ ?_ ?_
  · refine ⟨Nat.le_refl _, by simp only; omega, ?_, Mix.refl _ _ _ _⟩; funext p; simp only [shlf]; split; omega; split <;> simp_all
  · intro s hs; simp
  · intro s hs; simp [cloEnv, clo, cloL, S, hq]
  · intro s hs; subst hc1; simp [keepAt, headId, lookN, Env.keep, Env.get]
  intro s hs
  subst hc1
  obtain ⟨k, g⟩ := s
  obtain ⟨h1, h2, hg, hm⟩ := hs
  simp only at h1 h2 hg hm ⊢
  obtain ⟨w, hw⟩ : ∃ w, w = i - 1 := ⟨_, rfl⟩
  have w1 : IntKind.i64.wrap ((i : Int) - 1) = (w : Int) := wrap_n _ _ (by omega) (by omega)
  by_cases hk : k < w
  · left
    have hk2 : (k : Int) < (w : Int) := by omega
    obtain ⟨y, hy⟩ : ∃ y, y = k + 1 := ⟨_, rfl⟩
    have w2 : IntKind.i64.wrap ((k : Int) + 1) = (y : Int) := wrap_n _ _ (by omega) (by omega)
    have lk : k < n := by omega
    have ly : y < n := by omega
    have hg2 : upf (upf g k (g y)) y (g k) = shlf f a y := by
      funext p; rw [hg]; simp only [upf, shlf, hy]
      repeat' split
      all_goals (first | omega | rfl | (congr 1; omega) | (exfalso; simp_all))
    refine ⟨(y, upf (upf g k (g y)) y (g k)), ?_, ⟨by simp only; omega, by simp only; omega, hg2, hm.trans (mix_swap g k y (by omega) (by omega) (by omega) (by omega) hb)⟩, by simp only; omega⟩
    clear hg2 hg
    simp (config := { maxSteps := 1000000 }) [↓ev_loop, ev, evOps, evOp, wants, req, reqCall, inOf, evOpd, ofConst, ofCell, hands, Ann.mem, Env.get, Env.set, gives, handT, Op.operands, Call.operands, meet, putD, params, AV.strip, keepAt, lookN, Env.keep, binAV, intBinAV, headId, tidy, flagOp, nilConst, List.filterMap_cons, List.filterMap_nil, outOf, resAll, resOf, reifyR, reify, reifyP, clo, cloL, cloLL, cloEnv, loadBox, storeBox, okPut, buildElems, buildCells, int_beq, int_bne, evDraw, evOpsD, evOpD, meetD, numbered, newsOf, newsIn, footsOk, apartF, clash, prec, Region.binds, hk, hk2, w1, w2, hq, get_q0 hq, atArr, loadArr, storeArr, lk, ly, tab_get, tab_set, take_q0]
  · right
    have hk2 : ¬ (k : Int) < (w : Int) := by omega
    have hkw : k = i - 1 := by omega
    refine out_of (.exit 2) [(0, .arr q v 0 n), (10, I i), (13, I k), (58, .bool false)] (H.set q (.arr v (tab g n))) ?_ (by simp) ?_
    · simp [↓ev_loop, ev, evOps, evOp, wants, req, reqCall, inOf, evOpd, ofConst, ofCell, hands, Ann.mem, Env.get, Env.set, gives, handT, Op.operands, Call.operands, meet, putD, params, AV.strip, keepAt, lookN, Env.keep, binAV, intBinAV, headId, tidy, flagOp, nilConst, List.filterMap_cons, List.filterMap_nil, outOf, resAll, resOf, reifyR, reify, reifyP, clo, cloL, cloLL, cloEnv, loadBox, storeBox, okPut, buildElems, buildCells, int_beq, int_bne, hk, hk2, w1]
    · rw [← hkw, ← hg]; exact ⟨rfl, rfl, hm⟩

theorem lp70_2 (f : Nat → Act) (q v a m n : Nat) (bs : List Nat) (H : List AO) (c2 : Code) (hc2 : (loops (Try.f70.body.getD .skip))[2]? = some c2) (hq : q < H.length) (hn : n ≤ 100000) (ham : a ≤ m) (hb : m < n) (hsw : SW f a m) :
    ∃ x e' H', lev Try.prog an70 (callD X) c2 bs ((fun s : Nat × Nat => [(0, .arr q v 0 n), (2, I m), (4, .func 42 [] []), (14, I s.1), (15, I s.2)]) ((a, m))) ((fun s : Nat × Nat => H.set q (.arr v (tab f n))) ((a, m))) = some (x, e', H') ∧ (∃ i : Nat, H' = H.set q (.arr v (tab f n)) ∧ x = .exit 4 ∧ e'.get 0 = .arr q v 0 n ∧ e'.get 2 = I m ∧ e'.get 14 = I i ∧ a ≤ i ∧ i ≤ m ∧ (∀ k, a ≤ k → k < i → ¬ aheadB (f m) (f k) = true) ∧ (∀ k, i ≤ k → k < m → aheadB (f m) (f k) = true)) := by
  simp only [Try.f70, loops, List.cons_append, List.nil_append, List.append_nil, List.getElem?_cons_zero, List.getElem?_cons_succ, Option.getD_some, Option.some.injEq] at hc2
  refine lev_inv (σ := Nat × Nat) (fun s => [(0, .arr q v 0 n), (2, I m), (4, .func 42 [] []), (14, I s.1), (15, I s.2)]) (fun s => H.set q (.arr v (tab f n))) (fun s => a ≤ s.1 ∧ s.1 ≤ s.2 ∧ s.2 ≤ m ∧ (∀ k, a ≤ k → k < s.1 → ¬ aheadB (f m) (f k) = true) ∧ (∀ k, s.2 ≤ k → k < m → aheadB (f m) (f k) = true)) (fun s => s.2 - s.1) (fun x e' H' => ∃ i : Nat, H' = H.set q (.arr v (tab f n)) ∧ x = .exit 4 ∧ e'.get 0 = .arr q v 0 n ∧ e'.get 2 = I m ∧ e'.get 14 = I i ∧ a ≤ i ∧ i ≤ m ∧ (∀ k, a ≤ k → k < i → ¬ aheadB (f m) (f k) = true) ∧ (∀ k, i ≤ k → k < m → aheadB (f m) (f k) = true)) ((a, m)) ?_ ?_ ?_ ?_ ?_
  · refine ⟨Nat.le_refl _, ham, Nat.le_refl _, fun k h1 h2 => ?_, fun k h1 h2 => ?_⟩ <;> simp only at * <;> omega
  · intro s hs; simp
  · intro s hs; simp [cloEnv, clo, cloL, S, hq]
  · intro s hs; subst hc2; simp [keepAt, headId, lookN, Env.keep, Env.get]
  intro s hs
  subst hc2
  obtain ⟨i, j⟩ := s
  obtain ⟨h1, h2, h3, hs1, hs2⟩ := hs
  simp only at h1 h2 h3 hs1 hs2 ⊢
  by_cases hij : i < j
  · left
    have hij2 : (i : Int) < (j : Int) := by omega
    have hmid := mid_ok i j (by omega) (by omega)
    obtain ⟨h, hh⟩ : ∃ h, h = (i + j) / 2 := ⟨_, rfl⟩
    rw [← hh] at hmid
    have wh : IntKind.i64.wrap ((h : Int) + 1) = ((h + 1 : Nat) : Int) := wrap_s h (by omega)
    have lh : h < n := by omega
    obtain ⟨z, hz, hz2⟩ := cmp_neg (f m) (f h)
    by_cases ha : aheadB (f m) (f h) = true
    · have hz3 : z < 0 := by rw [ha, decide_eq_true_eq] at hz2; exact hz2
      refine ⟨(i, h), ?_, ⟨h1, by simp only; omega, by simp only; omega, hs1, ?_⟩, by simp only; omega⟩
      · simp [↓ev_loop, ev, evOps, evOp, wants, req, reqCall, inOf, evOpd, ofConst, ofCell, hands, Ann.mem, Env.get, Env.set, gives, handT, Op.operands, Call.operands, meet, putD, params, AV.strip, keepAt, lookN, Env.keep, binAV, intBinAV, headId, tidy, flagOp, nilConst, List.filterMap_cons, List.filterMap_nil, outOf, resAll, resOf, reifyR, reify, reifyP, clo, cloL, cloLL, cloEnv, loadBox, storeBox, okPut, buildElems, buildCells, int_beq, int_bne, evDraw, evOpsD, evOpD, meetD, numbered, newsOf, newsIn, footsOk, apartF, clash, prec, Region.binds, hij, hij2, hmid, wh, hz, hz3, hq, get_q0 hq, atArr, loadArr, lh, hb, tab_get, take_q0]
      · intro k c1 c2
        simp only at c1
        rw [ahead_iff] at ha ⊢
        intro hc
        by_cases hk : k = h
        · subst hk; exact ha hc
        · exact ha (leA_trans (hsw h k (by omega) (by omega) c2) hc)
    · have hz3 : ¬ z < 0 := by intro h; rw [decide_eq_true h] at hz2; exact ha hz2.symm
      refine ⟨(h + 1, j), ?_, ⟨by simp only; omega, by simp only; omega, h3, ?_, hs2⟩, by simp only; omega⟩
      · simp [↓ev_loop, ev, evOps, evOp, wants, req, reqCall, inOf, evOpd, ofConst, ofCell, hands, Ann.mem, Env.get, Env.set, gives, handT, Op.operands, Call.operands, meet, putD, params, AV.strip, keepAt, lookN, Env.keep, binAV, intBinAV, headId, tidy, flagOp, nilConst, List.filterMap_cons, List.filterMap_nil, outOf, resAll, resOf, reifyR, reify, reifyP, clo, cloL, cloLL, cloEnv, loadBox, storeBox, okPut, buildElems, buildCells, int_beq, int_bne, evDraw, evOpsD, evOpD, meetD, numbered, newsOf, newsIn, footsOk, apartF, clash, prec, Region.binds, hij, hij2, hmid, wh, hz, hz3, hq, get_q0 hq, atArr, loadArr, lh, hb, tab_get, take_q0]
      · intro k c1 c2
        simp only at c2
        rw [ahead_iff, Classical.not_not] at ha ⊢
        by_cases hk : k = h
        · subst hk; exact ha
        · exact leA_trans (hsw k h c1 (by omega) (by omega)) ha
  · right
    have hij2 : ¬ (i : Int) < (j : Int) := by omega
    have hij3 : i = j := by omega
    subst hij3
    refine out_of (.exit 4) [(0, .arr q v 0 n), (2, I m), (4, .func 42 [] []), (14, I i), (15, I i), (85, .bool false)] (H.set q (.arr v (tab f n))) ?_ (by simp) ?_
    · simp [↓ev_loop, ev, evOps, evOp, wants, req, reqCall, inOf, evOpd, ofConst, ofCell, hands, Ann.mem, Env.get, Env.set, gives, handT, Op.operands, Call.operands, meet, putD, params, AV.strip, keepAt, lookN, Env.keep, binAV, intBinAV, headId, tidy, flagOp, nilConst, List.filterMap_cons, List.filterMap_nil, outOf, resAll, resOf, reifyR, reify, reifyP, clo, cloL, cloLL, cloEnv, loadBox, storeBox, okPut, buildElems, buildCells, int_beq, int_bne, hij, hij2]
    · exact ⟨i, rfl, rfl, rfl, rfl, rfl, h1, h3, hs1, hs2⟩

theorem lp70_3 (f : Nat → Act) (q v a m b n i : Nat) (bs : List Nat) (H : List AO) (c3 : Code) (hc3 : (loops (Try.f70.body.getD .skip))[3]? = some c3) (hq : q < H.length) (hn : n ≤ 100000) (hai : a ≤ i) (him : i ≤ m) (hmb : m < b) (hb : b ≤ n) :
    ∃ x e' H', lev Try.prog an70 (callD X) c3 bs ((fun s : Nat × (Nat → Act) => [(0, .arr q v 0 n), (14, I i), (17, I s.1)]) ((m, f))) ((fun s : Nat × (Nat → Act) => H.set q (.arr v (tab s.2 n))) ((m, f))) = some (x, e', H') ∧ (H' = H.set q (.arr v (tab (shrf f m i) n)) ∧ x = .exit 6 ∧ Mix a b n f (shrf f m i)) := by
  simp only [Try.f70, loops, List.cons_append, List.nil_append, List.append_nil, List.getElem?_cons_zero, List.getElem?_cons_succ, Option.getD_some, Option.some.injEq] at hc3
  refine lev_inv (σ := Nat × (Nat → Act)) (fun s => [(0, .arr q v 0 n), (14, I i), (17, I s.1)]) (fun s => H.set q (.arr v (tab s.2 n))) (fun s => i ≤ s.1 ∧ s.1 ≤ m ∧ s.2 = shrf f m s.1 ∧ Mix a b n f s.2) (fun s => s.1) (fun x e' H' => H' = H.set q (.arr v (tab (shrf f m i) n)) ∧ x = .exit 6 ∧ Mix a b n f (shrf f m i)) ((m, f)) ?_ ?_ ?_ ?_ ?_
  · refine ⟨him, Nat.le_refl _, ?_, Mix.refl _ _ _ _⟩; funext p; simp only [shrf]; split; omega; split <;> simp_all
  · intro s hs; simp
  · intro s hs; simp [cloEnv, clo, cloL, S, hq]
  · intro s hs; subst hc3; simp [keepAt, headId, lookN, Env.keep, Env.get]
  intro s hs
  subst hc3
  obtain ⟨k, g⟩ := s
  obtain ⟨h1, h2, hg, hm⟩ := hs
  simp only at h1 h2 hg hm ⊢
  by_cases hk : i < k
  · left
    have hk2 : (i : Int) < (k : Int) := by omega
    obtain ⟨y, hy⟩ : ∃ y, y = k - 1 := ⟨_, rfl⟩
    have w2 : IntKind.i64.wrap ((k : Int) - 1) = (y : Int) := wrap_n _ _ (by omega) (by omega)
    have lk : k < n := by omega
    have ly : y < n := by omega
    have hg2 : upf (upf g k (g y)) y (g k) = shrf f m y := by
      funext p; rw [hg]; simp only [upf, shrf, hy]
      repeat' split
      all_goals (first | omega | rfl | (congr 1; omega) | (exfalso; simp_all))
    refine ⟨(y, upf (upf g k (g y)) y (g k)), ?_, ⟨by simp only; omega, by simp only; omega, hg2, hm.trans (mix_swap g k y (by omega) (by omega) (by omega) (by omega) hb)⟩, by simp only; omega⟩
    clear hg2 hg
    simp (config := { maxSteps := 1000000 }) [↓ev_loop, ev, evOps, evOp, wants, req, reqCall, inOf, evOpd, ofConst, ofCell, hands, Ann.mem, Env.get, Env.set, gives, handT, Op.operands, Call.operands, meet, putD, params, AV.strip, keepAt, lookN, Env.keep, binAV, intBinAV, headId, tidy, flagOp, nilConst, List.filterMap_cons, List.filterMap_nil, outOf, resAll, resOf, reifyR, reify, reifyP, clo, cloL, cloLL, cloEnv, loadBox, storeBox, okPut, buildElems, buildCells, int_beq, int_bne, evDraw, evOpsD, evOpD, meetD, numbered, newsOf, newsIn, footsOk, apartF, clash, prec, Region.binds, hk, hk2, w2, hq, get_q0 hq, atArr, loadArr, storeArr, lk, ly, tab_get, tab_set, take_q0]
  · right
    have hk2 : ¬ (i : Int) < (k : Int) := by omega
    have hkw : k = i := by omega
    refine out_of (.exit 6) [(0, .arr q v 0 n), (14, I i), (17, I k), (110, .bool false)] (H.set q (.arr v (tab g n))) ?_ (by simp) ?_
    · simp [↓ev_loop, ev, evOps, evOp, wants, req, reqCall, inOf, evOpd, ofConst, ofCell, hands, Ann.mem, Env.get, Env.set, gives, handT, Op.operands, Call.operands, meet, putD, params, AV.strip, keepAt, lookN, Env.keep, binAV, intBinAV, headId, tidy, flagOp, nilConst, List.filterMap_cons, List.filterMap_nil, outOf, resAll, resOf, reifyR, reify, reifyP, clo, cloL, cloLL, cloEnv, loadBox, storeBox, okPut, buildElems, buildCells, int_beq, int_bne, hk, hk2]
    · rw [← hkw, ← hg]; exact ⟨rfl, rfl, hm⟩

theorem lp70_4 (f : Nat → Act) (q v a m b n d nn p u r0 : Nat) (bs : List Nat) (H : List AO) (c4 : Code) (hc4 : (loops (Try.f70.body.getD .skip))[4]? = some c4) (hq : q < H.length) (hn : n ≤ 100000) (hu : u ≤ r0) (hr0 : r0 ≤ n) (hc : ∀ c, u ≤ c → c < r0 → c ≤ p ∧ p - c < n) :
    ∃ x e' H', lev Try.prog an70 (callD X) c4 bs ((fun s : Nat × Nat => [(0, .arr q v 0 n), (1, I a), (2, I m), (3, I b), (4, .func 42 [] []), (18, I d), (19, I nn), (20, I s.1), (21, I s.2), (22, I p)]) ((u, r0))) ((fun s : Nat × Nat => H.set q (.arr v (tab f n))) ((u, r0))) = some (x, e', H') ∧ (∃ i : Nat, H' = H.set q (.arr v (tab f n)) ∧ x = .exit 8 ∧ e'.get 0 = .arr q v 0 n ∧ e'.get 1 = I a ∧ e'.get 2 = I m ∧ e'.get 3 = I b ∧ e'.get 4 = .func 42 [] [] ∧ e'.get 18 = I d ∧ e'.get 19 = I nn ∧ e'.get 20 = I i ∧ u ≤ i ∧ i ≤ r0 ∧ (i = u ∨ ¬ aheadB (f (p - (i - 1))) (f (i - 1)) = true) ∧ (i = r0 ∨ aheadB (f (p - i)) (f i) = true)) := by
  simp only [Try.f70, loops, List.cons_append, List.nil_append, List.append_nil, List.getElem?_cons_zero, List.getElem?_cons_succ, Option.getD_some, Option.some.injEq] at hc4
  refine lev_inv (σ := Nat × Nat) (fun s => [(0, .arr q v 0 n), (1, I a), (2, I m), (3, I b), (4, .func 42 [] []), (18, I d), (19, I nn), (20, I s.1), (21, I s.2), (22, I p)]) (fun s => H.set q (.arr v (tab f n))) (fun s => u ≤ s.1 ∧ s.1 ≤ s.2 ∧ s.2 ≤ r0 ∧ (s.1 = u ∨ ¬ aheadB (f (p - (s.1 - 1))) (f (s.1 - 1)) = true) ∧ (s.2 = r0 ∨ aheadB (f (p - s.2)) (f s.2) = true)) (fun s => s.2 - s.1) (fun x e' H' => ∃ i : Nat, H' = H.set q (.arr v (tab f n)) ∧ x = .exit 8 ∧ e'.get 0 = .arr q v 0 n ∧ e'.get 1 = I a ∧ e'.get 2 = I m ∧ e'.get 3 = I b ∧ e'.get 4 = .func 42 [] [] ∧ e'.get 18 = I d ∧ e'.get 19 = I nn ∧ e'.get 20 = I i ∧ u ≤ i ∧ i ≤ r0 ∧ (i = u ∨ ¬ aheadB (f (p - (i - 1))) (f (i - 1)) = true) ∧ (i = r0 ∨ aheadB (f (p - i)) (f i) = true)) ((u, r0)) ?_ ?_ ?_ ?_ ?_
  · exact ⟨Nat.le_refl _, hu, Nat.le_refl _, .inl rfl, .inl rfl⟩
  · intro s hs; simp
  · intro s hs; simp [cloEnv, clo, cloL, S, hq]
  · intro s hs; subst hc4; simp [keepAt, headId, lookN, Env.keep, Env.get]
  intro s hs
  subst hc4
  obtain ⟨i, j⟩ := s
  obtain ⟨h1, h2, h3, hs1, hs2⟩ := hs
  simp only at h1 h2 h3 hs1 hs2 ⊢
  by_cases hij : i < j
  · left
    have hij2 : (i : Int) < (j : Int) := by omega
    have hmid := mid_ok i j (by omega) (by omega)
    obtain ⟨h, hh⟩ : ∃ h, h = (i + j) / 2 := ⟨_, rfl⟩
    rw [← hh] at hmid
    have wh : IntKind.i64.wrap ((h : Int) + 1) = ((h + 1 : Nat) : Int) := wrap_s h (by omega)
    have lh : h < n := by omega
    obtain ⟨hp1, hp2⟩ := hc h (by omega) (by omega)
    obtain ⟨y, hy⟩ : ∃ y, y = p - h := ⟨_, rfl⟩
    have ly : y < n := by omega
    have wy : IntKind.i64.wrap ((p : Int) - (h : Int)) = (y : Int) := wrap_n _ _ (by omega) (by omega)
    obtain ⟨z, hz, hz2⟩ := cmp_neg (f y) (f h)
    by_cases ha : aheadB (f y) (f h) = true
    · have hz3 : z < 0 := by rw [ha, decide_eq_true_eq] at hz2; exact hz2
      refine ⟨(i, h), ?_, ⟨h1, by simp only; omega, by simp only; omega, hs1, .inr (by simp only; rw [← hy]; exact ha)⟩, by simp only; omega⟩
      simp [↓ev_loop, ev, evOps, evOp, wants, req, reqCall, inOf, evOpd, ofConst, ofCell, hands, Ann.mem, Env.get, Env.set, gives, handT, Op.operands, Call.operands, meet, putD, params, AV.strip, keepAt, lookN, Env.keep, binAV, intBinAV, headId, tidy, flagOp, nilConst, List.filterMap_cons, List.filterMap_nil, outOf, resAll, resOf, reifyR, reify, reifyP, clo, cloL, cloLL, cloEnv, loadBox, storeBox, okPut, buildElems, buildCells, int_beq, int_bne, evDraw, evOpsD, evOpD, meetD, numbered, newsOf, newsIn, footsOk, apartF, clash, prec, Region.binds, hij, hij2, hmid, wh, wy, hz, hz3, hq, get_q0 hq, atArr, loadArr, lh, ly, tab_get, take_q0]
    · have hz3 : ¬ z < 0 := by intro h; rw [decide_eq_true h] at hz2; exact ha hz2.symm
      refine ⟨(h + 1, j), ?_, ⟨by simp only; omega, by simp only; omega, h3, .inr (by simp only; rw [Nat.add_sub_cancel, ← hy]; exact ha), hs2⟩, by simp only; omega⟩
      simp [↓ev_loop, ev, evOps, evOp, wants, req, reqCall, inOf, evOpd, ofConst, ofCell, hands, Ann.mem, Env.get, Env.set, gives, handT, Op.operands, Call.operands, meet, putD, params, AV.strip, keepAt, lookN, Env.keep, binAV, intBinAV, headId, tidy, flagOp, nilConst, List.filterMap_cons, List.filterMap_nil, outOf, resAll, resOf, reifyR, reify, reifyP, clo, cloL, cloLL, cloEnv, loadBox, storeBox, okPut, buildElems, buildCells, int_beq, int_bne, evDraw, evOpsD, evOpD, meetD, numbered, newsOf, newsIn, footsOk, apartF, clash, prec, Region.binds, hij, hij2, hmid, wh, wy, hz, hz3, hq, get_q0 hq, atArr, loadArr, lh, ly, tab_get, take_q0]
  · right
    have hij2 : ¬ (i : Int) < (j : Int) := by omega
    have hij3 : i = j := by omega
    subst hij3
    refine out_of (.exit 8) [(0, .arr q v 0 n), (1, I a), (2, I m), (3, I b), (4, .func 42 [] []), (18, I d), (19, I nn), (20, I i), (21, I i), (22, I p), (151, .bool false)] (H.set q (.arr v (tab f n))) ?_ (by simp) ?_
    · simp [↓ev_loop, ev, evOps, evOp, wants, req, reqCall, inOf, evOpd, ofConst, ofCell, hands, Ann.mem, Env.get, Env.set, gives, handT, Op.operands, Call.operands, meet, putD, params, AV.strip, keepAt, lookN, Env.keep, binAV, intBinAV, headId, tidy, flagOp, nilConst, List.filterMap_cons, List.filterMap_nil, outOf, resAll, resOf, reifyR, reify, reifyP, clo, cloL, cloLL, cloEnv, loadBox, storeBox, okPut, buildElems, buildCells, int_beq, int_bne, hij, hij2]
    · exact ⟨i, rfl, rfl, rfl, rfl, rfl, rfl, rfl, rfl, rfl, rfl, h1, h3, hs1, hs2⟩
end Go.Proofs.Ytlpilgnjlnepeaa.T
namespace Go.Proofs.Ytlpilgnjlnepeaa.T
open Go.VM Go.Proofs
set_option linter.unusedSimpArgs false
set_option maxHeartbeats 16000000
set_option maxRecDepth 10000

/-- A text's pieces that stand one after another. -/
def seqs : Code → List Code
  | .seq a b => seqs a ++ seqs b
  | c => [c]

theorem p70_1f (e : Env) (he : e.get 28 = .bool false) (bs : List Nat) (H : List AO) (c1 : Code) (hc1 : (seqs (Try.f70.body.getD .skip))[1]? = some c1) : ev Try.prog an70 (callD X) iterD c1 bs e H = some (.normal, e, H) := by
  simp only [Try.f70, seqs, List.cons_append, List.nil_append, List.append_nil, List.getElem?_cons_zero, List.getElem?_cons_succ, Option.getD_some, Option.some.injEq] at hc1
  subst hc1
  simp [↓ev_loop, ev, evOps, evOp, wants, req, reqCall, inOf, evOpd, ofConst, ofCell, hands, Ann.mem, Env.get, Env.set, gives, handT, Op.operands, Call.operands, meet, putD, params, AV.strip, keepAt, lookN, Env.keep, binAV, intBinAV, headId, tidy, flagOp, nilConst, List.filterMap_cons, List.filterMap_nil, outOf, resAll, resOf, reifyR, reify, reifyP, clo, cloL, cloLL, cloEnv, loadBox, storeBox, okPut, buildElems, buildCells, int_beq, int_bne, he]
theorem p70_3f (e : Env) (he : e.get 80 = .bool false) (bs : List Nat) (H : List AO) (c3 : Code) (hc3 : (seqs (Try.f70.body.getD .skip))[3]? = some c3) : ev Try.prog an70 (callD X) iterD c3 bs e H = some (.normal, e, H) := by
  simp only [Try.f70, seqs, List.cons_append, List.nil_append, List.append_nil, List.getElem?_cons_zero, List.getElem?_cons_succ, Option.getD_some, Option.some.injEq] at hc3
  subst hc3
  simp [↓ev_loop, ev, evOps, evOp, wants, req, reqCall, inOf, evOpd, ofConst, ofCell, hands, Ann.mem, Env.get, Env.set, gives, handT, Op.operands, Call.operands, meet, putD, params, AV.strip, keepAt, lookN, Env.keep, binAV, intBinAV, headId, tidy, flagOp, nilConst, List.filterMap_cons, List.filterMap_nil, outOf, resAll, resOf, reifyR, reify, reifyP, clo, cloL, cloLL, cloEnv, loadBox, storeBox, okPut, buildElems, buildCells, int_beq, int_bne, he]
theorem p70_1t (f : Nat → Act) (q v a m b n : Nat) (bs : List Nat) (H : List AO) (hq : q < H.length) (hn : n ≤ 100000) (ham : m = a + 1) (hmb : m < b) (hb : b ≤ n) (hsw : SW f m b) (c1 : Code) (hc1 : (seqs (Try.f70.body.getD .skip))[1]? = some c1) (l0 : Code) (hl0 : (loops (Try.f70.body.getD .skip))[0]? = some l0) (l1 : Code) (hl1 : (loops (Try.f70.body.getD .skip))[1]? = some l1) :
    ∃ e' i, ev Try.prog an70 (callD X) iterD c1 bs [(0, .arr q v 0 n), (1, I a), (2, I m), (3, I b), (4, .func 42 [] []), (28, .bool true)] (H.set q (.arr v (tab f n))) = some (.ret, e', H.set q (.arr v (tab (shlf f a (i - 1)) n))) ∧ m ≤ i ∧ i ≤ b ∧ (∀ k, m ≤ k → k < i → aheadB (f k) (f a) = true) ∧ (∀ k, i ≤ k → k < b → ¬ aheadB (f k) (f a) = true) ∧ Mix a b n f (shlf f a (i - 1)) := by
  have hl0' := hl0
  simp only [Try.f70, loops, List.cons_append, List.nil_append, List.append_nil, List.getElem?_cons_zero, List.getElem?_cons_succ, Option.getD_some, Option.some.injEq] at hl0
  have hl1' := hl1
  simp only [Try.f70, loops, List.cons_append, List.nil_append, List.append_nil, List.getElem?_cons_zero, List.getElem?_cons_succ, Option.getD_some, Option.some.injEq] at hl1
  simp only [Try.f70, seqs, List.cons_append, List.nil_append, List.append_nil, List.getElem?_cons_zero, List.getElem?_cons_succ, Option.getD_some, Option.some.injEq] at hc1
  subst hc1
  rw [hl0, hl1]
  obtain ⟨x, e', H', h1, i, rfl, rfl, g0, g1, g10, hi1, hi2, hi3, hi4⟩ := lp70_0 f q v a m b n bs H l0 hl0' hq hn (by omega) (by omega) hb hsw
  obtain ⟨x, e2, H', h2, rfl, rfl, hm⟩ := lp70_1 f q v a b n i bs H l1 hl1' hq hn (by omega) hi2 hb
  simp only [S, List.map_nil, Int.ofNat_eq_natCast, Int.natCast_zero, List.length_append, List.length_cons, List.length_nil, Nat.zero_add, Nat.reduceAdd] at h1
  simp only [S, List.map_nil, Int.ofNat_eq_natCast, Int.natCast_zero, List.length_append, List.length_cons, List.length_nil, Nat.zero_add, Nat.reduceAdd] at h2
  refine ⟨e2, i, ?_, hi1, hi2, hi3, hi4, hm⟩
  simp [↓ev_loop, ev, evOps, evOp, wants, req, reqCall, inOf, evOpd, ofConst, ofCell, hands, Ann.mem, Env.get, Env.set, gives, handT, Op.operands, Call.operands, meet, putD, params, AV.strip, keepAt, lookN, Env.keep, binAV, intBinAV, headId, tidy, flagOp, nilConst, List.filterMap_cons, List.filterMap_nil, outOf, resAll, resOf, reifyR, reify, reifyP, clo, cloL, cloLL, cloEnv, loadBox, storeBox, okPut, buildElems, buildCells, int_beq, int_bne, h1, g0, g1, g10, h2]
theorem p70_3t (f : Nat → Act) (q v a m b n : Nat) (bs : List Nat) (H : List AO) (hq : q < H.length) (hn : n ≤ 100000) (ham : a < m) (hmb : b = m + 1) (hb : b ≤ n) (hsw : SW f a m) (c3 : Code) (hc3 : (seqs (Try.f70.body.getD .skip))[3]? = some c3) (l2 : Code) (hl2 : (loops (Try.f70.body.getD .skip))[2]? = some l2) (l3 : Code) (hl3 : (loops (Try.f70.body.getD .skip))[3]? = some l3) :
    ∃ e' i, ev Try.prog an70 (callD X) iterD c3 bs [(0, .arr q v 0 n), (1, I a), (2, I m), (3, I b), (4, .func 42 [] []), (80, .bool true)] (H.set q (.arr v (tab f n))) = some (.ret, e', H.set q (.arr v (tab (shrf f m i) n))) ∧ a ≤ i ∧ i ≤ m ∧ (∀ k, a ≤ k → k < i → ¬ aheadB (f m) (f k) = true) ∧ (∀ k, i ≤ k → k < m → aheadB (f m) (f k) = true) ∧ Mix a b n f (shrf f m i) := by
  have hl2' := hl2
  simp only [Try.f70, loops, List.cons_append, List.nil_append, List.append_nil, List.getElem?_cons_zero, List.getElem?_cons_succ, Option.getD_some, Option.some.injEq] at hl2
  have hl3' := hl3
  simp only [Try.f70, loops, List.cons_append, List.nil_append, List.append_nil, List.getElem?_cons_zero, List.getElem?_cons_succ, Option.getD_some, Option.some.injEq] at hl3
  simp only [Try.f70, seqs, List.cons_append, List.nil_append, List.append_nil, List.getElem?_cons_zero, List.getElem?_cons_succ, Option.getD_some, Option.some.injEq] at hc3
  subst hc3
  rw [hl2, hl3]
  obtain ⟨x, e', H', h1, i, rfl, rfl, g0, g2, g14, hi1, hi2, hi3, hi4⟩ := lp70_2 f q v a m n bs H l2 hl2' hq hn (by omega) (by omega) hsw
  obtain ⟨x, e2, H', h2, rfl, rfl, hm⟩ := lp70_3 f q v a m b n i bs H l3 hl3' hq hn hi1 hi2 (by omega) hb
  simp only [S, List.map_nil, Int.ofNat_eq_natCast, Int.natCast_zero, List.length_append, List.length_cons, List.length_nil, Nat.zero_add, Nat.reduceAdd] at h1
  simp only [S, List.map_nil, Int.ofNat_eq_natCast, Int.natCast_zero, List.length_append, List.length_cons, List.length_nil, Nat.zero_add, Nat.reduceAdd] at h2
  refine ⟨e2, i, ?_, hi1, hi2, hi3, hi4, hm⟩
  simp [↓ev_loop, ev, evOps, evOp, wants, req, reqCall, inOf, evOpd, ofConst, ofCell, hands, Ann.mem, Env.get, Env.set, gives, handT, Op.operands, Call.operands, meet, putD, params, AV.strip, keepAt, lookN, Env.keep, binAV, intBinAV, headId, tidy, flagOp, nilConst, List.filterMap_cons, List.filterMap_nil, outOf, resAll, resOf, reifyR, reify, reifyP, clo, cloL, cloLL, cloEnv, loadBox, storeBox, okPut, buildElems, buildCells, int_beq, int_bne, h1, g0, g2, g14, h2]
theorem p70_8 (q v a m b n d nn u r0 : Nat) (hd : (d < m → u + b = nn ∧ r0 = d) ∧ (¬ d < m → u = a ∧ r0 = m)) (hu : u ≤ 100000) (bs : List Nat) (H : List AO) (c8 : Code) (hc8 : (seqs (Try.f70.body.getD .skip))[8]? = some c8) :
    ev Try.prog an70 (callD X) iterD c8 bs [(0, .arr q v 0 n), (1, I a), (2, I m), (3, I b), (4, .func 42 [] []), (18, I d), (19, I nn), (140, .bool (decide (d < m)))] H = some (.normal, [(0, .arr q v 0 n), (1, I a), (2, I m), (3, I b), (4, .func 42 [] []), (18, I d), (19, I nn), (20, I u), (21, I r0)], H) := by
  simp only [Try.f70, seqs, List.cons_append, List.nil_append, List.append_nil, List.getElem?_cons_zero, List.getElem?_cons_succ, Option.getD_some, Option.some.injEq] at hc8
  subst hc8
  by_cases h : d < m
  · obtain ⟨h1, h2⟩ := hd.1 h
    subst h2
    have w : IntKind.i64.wrap ((nn : Int) - (b : Int)) = (u : Int) := wrap_n _ _ (by omega) (by omega)
    simp [↓ev_loop, ev, evOps, evOp, wants, req, reqCall, inOf, evOpd, ofConst, ofCell, hands, Ann.mem, Env.get, Env.set, gives, handT, Op.operands, Call.operands, meet, putD, params, AV.strip, keepAt, lookN, Env.keep, binAV, intBinAV, headId, tidy, flagOp, nilConst, List.filterMap_cons, List.filterMap_nil, outOf, resAll, resOf, reifyR, reify, reifyP, clo, cloL, cloLL, cloEnv, loadBox, storeBox, okPut, buildElems, buildCells, int_beq, int_bne, h, w]
  · obtain ⟨h1, h2⟩ := hd.2 h
    subst h1; subst h2
    simp [↓ev_loop, ev, evOps, evOp, wants, req, reqCall, inOf, evOpd, ofConst, ofCell, hands, Ann.mem, Env.get, Env.set, gives, handT, Op.operands, Call.operands, meet, putD, params, AV.strip, keepAt, lookN, Env.keep, binAV, intBinAV, headId, tidy, flagOp, nilConst, List.filterMap_cons, List.filterMap_nil, outOf, resAll, resOf, reifyR, reify, reifyP, clo, cloL, cloLL, cloEnv, loadBox, storeBox, okPut, buildElems, buildCells, int_beq, int_bne, h]
theorem p70_10 (f : Nat → Act) (q v a m b n d nn p u r0 : Nat) (bs : List Nat) (H : List AO) (hq : q < H.length) (hn : n ≤ 100000) (hu : u ≤ r0) (hr0 : r0 ≤ n) (hcc : ∀ c, u ≤ c → c < r0 → c ≤ p ∧ p - c < n) (c10 : Code) (hc10 : (seqs (Try.f70.body.getD .skip))[10]? = some c10) (l4 : Code) (hl4 : (loops (Try.f70.body.getD .skip))[4]? = some l4) :
    ∃ (e' : Env) (i : Nat), ev Try.prog an70 (callD X) iterD c10 bs [(0, .arr q v 0 n), (1, I a), (2, I m), (3, I b), (4, .func 42 [] []), (18, I d), (19, I nn), (20, I u), (21, I r0), (22, I p)] (H.set q (.arr v (tab f n))) = some (.normal, e', (H.set q (.arr v (tab f n)))) ∧ e'.get 0 = .arr q v 0 n ∧ e'.get 1 = I a ∧ e'.get 2 = I m ∧ e'.get 3 = I b ∧ e'.get 4 = .func 42 [] [] ∧ e'.get 18 = I d ∧ e'.get 19 = I nn ∧ e'.get 20 = I i ∧ u ≤ i ∧ i ≤ r0 ∧ (i = u ∨ ¬ aheadB (f (p - (i - 1))) (f (i - 1)) = true) ∧ (i = r0 ∨ aheadB (f (p - i)) (f i) = true) := by
  have hl4' := hl4
  simp only [Try.f70, loops, List.cons_append, List.nil_append, List.append_nil, List.getElem?_cons_zero, List.getElem?_cons_succ, Option.getD_some, Option.some.injEq] at hl4
  simp only [Try.f70, seqs, List.cons_append, List.nil_append, List.append_nil, List.getElem?_cons_zero, List.getElem?_cons_succ, Option.getD_some, Option.some.injEq] at hc10
  subst hc10
  rw [hl4]
  obtain ⟨x, e', H', h1, i, rfl, rfl, g⟩ := lp70_4 f q v a m b n d nn p u r0 bs H l4 hl4' hq hn hu hr0 hcc
  simp only [S, List.map_nil, Int.ofNat_eq_natCast, Int.natCast_zero, List.length_append, List.length_cons, List.length_nil, Nat.zero_add, Nat.reduceAdd] at h1
  refine ⟨e', i, ?_, g⟩
  simp [↓ev_loop, ev, evOps, evOp, wants, req, reqCall, inOf, evOpd, ofConst, ofCell, hands, Ann.mem, Env.get, Env.set, gives, handT, Op.operands, Call.operands, meet, putD, params, AV.strip, keepAt, lookN, Env.keep, binAV, intBinAV, headId, tidy, flagOp, nilConst, List.filterMap_cons, List.filterMap_nil, outOf, resAll, resOf, reifyR, reify, reifyP, clo, cloL, cloLL, cloEnv, loadBox, storeBox, okPut, buildElems, buildCells, int_beq, int_bne, h1]
theorem p70_12 (q v a m b n d i x : Nat) (bs : List Nat) (H : List AO) (c12 : Code) (hc12 : (seqs (Try.f70.body.getD .skip))[12]? = some c12) :
    ev Try.prog an70 (callD X) iterD c12 bs [(0, .arr q v 0 n), (1, I a), (2, I m), (3, I b), (4, .func 42 [] []), (18, I d), (20, I i), (24, I x)] H = some (.normal, [(0, .arr q v 0 n), (1, I a), (2, I m), (3, I b), (4, .func 42 [] []), (18, I d), (20, I i), (24, I x), (185, .bool (decide (i < m) && decide (m < x)))], H) := by
  simp only [Try.f70, seqs, List.cons_append, List.nil_append, List.append_nil, List.getElem?_cons_zero, List.getElem?_cons_succ, Option.getD_some, Option.some.injEq] at hc12
  subst hc12
  by_cases h : i < m <;> simp [↓ev_loop, ev, evOps, evOp, wants, req, reqCall, inOf, evOpd, ofConst, ofCell, hands, Ann.mem, Env.get, Env.set, gives, handT, Op.operands, Call.operands, meet, putD, params, AV.strip, keepAt, lookN, Env.keep, binAV, intBinAV, headId, tidy, flagOp, nilConst, List.filterMap_cons, List.filterMap_nil, outOf, resAll, resOf, reifyR, reify, reifyP, clo, cloL, cloLL, cloEnv, loadBox, storeBox, okPut, buildElems, buildCells, int_beq, int_bne, h]
theorem p70_14 (q v a b n d i x : Nat) (e : Env) (g0 : e.get 0 = .arr q v 0 n) (g1 : e.get 1 = I a) (g3 : e.get 3 = I b) (g4 : e.get 4 = .func 42 [] []) (g18 : e.get 18 = I d) (g20 : e.get 20 = I i) (g24 : e.get 24 = I x) (bs : List Nat) (H : List AO) (c14 : Code) (hc14 : (seqs (Try.f70.body.getD .skip))[14]? = some c14) :
    ev Try.prog an70 (callD X) iterD c14 bs e H = some (.normal, [(0, .arr q v 0 n), (1, I a), (3, I b), (4, .func 42 [] []), (18, I d), (20, I i), (24, I x), (199, .bool (decide (a < i) && decide (i < d)))], H) := by
  simp only [Try.f70, seqs, List.cons_append, List.nil_append, List.append_nil, List.getElem?_cons_zero, List.getElem?_cons_succ, Option.getD_some, Option.some.injEq] at hc14
  subst hc14
  by_cases h : a < i <;> simp [↓ev_loop, ev, evOps, evOp, wants, req, reqCall, inOf, evOpd, ofConst, ofCell, hands, Ann.mem, Env.get, Env.set, gives, handT, Op.operands, Call.operands, meet, putD, params, AV.strip, keepAt, lookN, Env.keep, binAV, intBinAV, headId, tidy, flagOp, nilConst, List.filterMap_cons, List.filterMap_nil, outOf, resAll, resOf, reifyR, reify, reifyP, clo, cloL, cloLL, cloEnv, loadBox, storeBox, okPut, buildElems, buildCells, int_beq, int_bne, h, g0, g1, g3, g4, g18, g20, g24]
theorem p70_16 (q v b n d x : Nat) (e : Env) (g0 : e.get 0 = .arr q v 0 n) (g3 : e.get 3 = I b) (g4 : e.get 4 = .func 42 [] []) (g18 : e.get 18 = I d) (g24 : e.get 24 = I x) (bs : List Nat) (H : List AO) (c16 : Code) (hc16 : (seqs (Try.f70.body.getD .skip))[16]? = some c16) :
    ev Try.prog an70 (callD X) iterD c16 bs e H = some (.normal, [(0, .arr q v 0 n), (3, I b), (4, .func 42 [] []), (18, I d), (24, I x), (213, .bool (decide (d < x) && decide (x < b)))], H) := by
  simp only [Try.f70, seqs, List.cons_append, List.nil_append, List.append_nil, List.getElem?_cons_zero, List.getElem?_cons_succ, Option.getD_some, Option.some.injEq] at hc16
  subst hc16
  by_cases h : d < x <;> simp [↓ev_loop, ev, evOps, evOp, wants, req, reqCall, inOf, evOpd, ofConst, ofCell, hands, Ann.mem, Env.get, Env.set, gives, handT, Op.operands, Call.operands, meet, putD, params, AV.strip, keepAt, lookN, Env.keep, binAV, intBinAV, headId, tidy, flagOp, nilConst, List.filterMap_cons, List.filterMap_nil, outOf, resAll, resOf, reifyR, reify, reifyP, clo, cloL, cloLL, cloEnv, loadBox, storeBox, okPut, buildElems, buildCells, int_beq, int_bne, h, g0, g3, g4, g18, g24]
theorem rot_triv (f : Nat → Act) (i m x : Nat) (h1 : i ≤ m) (h2 : m ≤ x) (h : ¬ (i < m ∧ m < x)) : rotf f i m x = f := by
  funext k; simp only [rotf]
  repeat' split
  all_goals (first | omega | rfl | (congr 1; omega))
theorem p70_13 (f : Nat → Act) (q v a m b n d i x : Nat) (bb : Bool) (hbb : bb = (decide (i < m) && decide (m < x))) (hn : n ≤ 100000) (him : i ≤ m) (hmx : m ≤ x) (hx : x ≤ n) (bs : List Nat) (H : List AO) (hq : q < H.length) (c13 : Code) (hc13 : (seqs (Try.f70.body.getD .skip))[13]? = some c13) :
    ∃ e', ev Try.prog an70 (callD X) iterD c13 bs [(0, .arr q v 0 n), (1, I a), (2, I m), (3, I b), (4, .func 42 [] []), (18, I d), (20, I i), (24, I x), (185, .bool bb)] (H.set q (.arr v (tab f n))) = some (.normal, e', H.set q (.arr v (tab (rotf f i m x) n))) ∧ e'.get 0 = .arr q v 0 n ∧ e'.get 1 = I a ∧ e'.get 3 = I b ∧ e'.get 4 = .func 42 [] [] ∧ e'.get 18 = I d ∧ e'.get 20 = I i ∧ e'.get 24 = I x ∧ Mix i x n f (rotf f i m x) := by
  simp only [Try.f70, seqs, List.cons_append, List.nil_append, List.append_nil, List.getElem?_cons_zero, List.getElem?_cons_succ, Option.getD_some, Option.some.injEq] at hc13
  subst hc13
  cases bb
  · have h : ¬ (i < m ∧ m < x) := by rintro ⟨h1, h2⟩; simp [h1, h2] at hbb
    rw [rot_triv f i m x him hmx h]
    refine ⟨_, by simp [↓ev_loop, ev, evOps, evOp, wants, req, reqCall, inOf, evOpd, ofConst, ofCell, hands, Ann.mem, Env.get, Env.set, gives, handT, Op.operands, Call.operands, meet, putD, params, AV.strip, keepAt, lookN, Env.keep, binAV, intBinAV, headId, tidy, flagOp, nilConst, List.filterMap_cons, List.filterMap_nil, outOf, resAll, resOf, reifyR, reify, reifyP, clo, cloL, cloLL, cloEnv, loadBox, storeBox, okPut, buildElems, buildCells, int_beq, int_bne]; rfl, rfl, rfl, rfl, rfl, rfl, rfl, rfl, Mix.refl _ _ _ _⟩
  · have h : i < m ∧ m < x := by simpa using hbb.symm
    have h77 := fun bs => (rot77 f q v i m x n hn h.1 h.2 hx bs H hq).1
    have hm := (rot77 f q v i m x n hn h.1 h.2 hx bs H hq).2
    refine ⟨[(0, .arr q v 0 n), (1, I a), (3, I b), (4, .func 42 [] []), (18, I d), (20, I i), (24, I x)], by simp [↓ev_loop, ev, evOps, evOp, wants, req, reqCall, inOf, evOpd, ofConst, ofCell, hands, Ann.mem, Env.get, Env.set, gives, handT, Op.operands, Call.operands, meet, putD, params, AV.strip, keepAt, lookN, Env.keep, binAV, intBinAV, headId, tidy, flagOp, nilConst, List.filterMap_cons, List.filterMap_nil, outOf, resAll, resOf, reifyR, reify, reifyP, clo, cloL, cloLL, cloEnv, loadBox, storeBox, okPut, buildElems, buildCells, int_beq, int_bne, h77], rfl, rfl, rfl, rfl, rfl, rfl, rfl, hm⟩
theorem p70_15 (f : Nat → Act) (q v a b n d i x : Nat) (bb : Bool) (hbb : bb = (decide (a < i) && decide (i < d))) (bs : List Nat) (H : List AO) (Q : (Nat → Act) → Prop)
    (h70 : a < i → i < d → ∃ g, callD X 70 [.arr q v 0 n, I a, I i, I d, .func 42 [] []] bs (H.set q (.arr v (tab f n))) = some (.tup [], H.set q (.arr v (tab g n))) ∧ Q g) (hno : ¬ (a < i ∧ i < d) → Q f) (c15 : Code) (hc15 : (seqs (Try.f70.body.getD .skip))[15]? = some c15) :
    ∃ e' g, ev Try.prog an70 (callD X) iterD c15 bs [(0, .arr q v 0 n), (1, I a), (3, I b), (4, .func 42 [] []), (18, I d), (20, I i), (24, I x), (199, .bool bb)] (H.set q (.arr v (tab f n))) = some (.normal, e', H.set q (.arr v (tab g n))) ∧ e'.get 0 = .arr q v 0 n ∧ e'.get 3 = I b ∧ e'.get 4 = .func 42 [] [] ∧ e'.get 18 = I d ∧ e'.get 24 = I x ∧ Q g := by
  simp only [Try.f70, seqs, List.cons_append, List.nil_append, List.append_nil, List.getElem?_cons_zero, List.getElem?_cons_succ, Option.getD_some, Option.some.injEq] at hc15
  subst hc15
  cases bb
  · have h : ¬ (a < i ∧ i < d) := by rintro ⟨h1, h2⟩; simp [h1, h2] at hbb
    refine ⟨_, f, by simp [↓ev_loop, ev, evOps, evOp, wants, req, reqCall, inOf, evOpd, ofConst, ofCell, hands, Ann.mem, Env.get, Env.set, gives, handT, Op.operands, Call.operands, meet, putD, params, AV.strip, keepAt, lookN, Env.keep, binAV, intBinAV, headId, tidy, flagOp, nilConst, List.filterMap_cons, List.filterMap_nil, outOf, resAll, resOf, reifyR, reify, reifyP, clo, cloL, cloLL, cloEnv, loadBox, storeBox, okPut, buildElems, buildCells, int_beq, int_bne]; rfl, rfl, rfl, rfl, rfl, rfl, hno h⟩
  · have h : a < i ∧ i < d := by simpa using hbb.symm
    obtain ⟨g, hg, hQ⟩ := h70 h.1 h.2
    refine ⟨[(0, .arr q v 0 n), (3, I b), (4, .func 42 [] []), (18, I d), (24, I x)], g, by simp [↓ev_loop, ev, evOps, evOp, wants, req, reqCall, inOf, evOpd, ofConst, ofCell, hands, Ann.mem, Env.get, Env.set, gives, handT, Op.operands, Call.operands, meet, putD, params, AV.strip, keepAt, lookN, Env.keep, binAV, intBinAV, headId, tidy, flagOp, nilConst, List.filterMap_cons, List.filterMap_nil, outOf, resAll, resOf, reifyR, reify, reifyP, clo, cloL, cloLL, cloEnv, loadBox, storeBox, okPut, buildElems, buildCells, int_beq, int_bne, hg], rfl, rfl, rfl, rfl, rfl, hQ⟩
theorem p70_17 (f : Nat → Act) (q v b n d x : Nat) (bb : Bool) (hbb : bb = (decide (d < x) && decide (x < b))) (bs : List Nat) (H : List AO) (Q : (Nat → Act) → Prop)
    (h70 : d < x → x < b → ∃ g, callD X 70 [.arr q v 0 n, I d, I x, I b, .func 42 [] []] bs (H.set q (.arr v (tab f n))) = some (.tup [], H.set q (.arr v (tab g n))) ∧ Q g) (hno : ¬ (d < x ∧ x < b) → Q f) (c17 : Code) (hc17 : (seqs (Try.f70.body.getD .skip))[17]? = some c17) :
    ∃ e' g, ev Try.prog an70 (callD X) iterD c17 bs [(0, .arr q v 0 n), (3, I b), (4, .func 42 [] []), (18, I d), (24, I x), (213, .bool bb)] (H.set q (.arr v (tab f n))) = some (.normal, e', H.set q (.arr v (tab g n))) ∧ Q g := by
  simp only [Try.f70, seqs, List.cons_append, List.nil_append, List.append_nil, List.getElem?_cons_zero, List.getElem?_cons_succ, Option.getD_some, Option.some.injEq] at hc17
  subst hc17
  cases bb
  · have h : ¬ (d < x ∧ x < b) := by rintro ⟨h1, h2⟩; simp [h1, h2] at hbb
    refine ⟨_, f, by simp [↓ev_loop, ev, evOps, evOp, wants, req, reqCall, inOf, evOpd, ofConst, ofCell, hands, Ann.mem, Env.get, Env.set, gives, handT, Op.operands, Call.operands, meet, putD, params, AV.strip, keepAt, lookN, Env.keep, binAV, intBinAV, headId, tidy, flagOp, nilConst, List.filterMap_cons, List.filterMap_nil, outOf, resAll, resOf, reifyR, reify, reifyP, clo, cloL, cloLL, cloEnv, loadBox, storeBox, okPut, buildElems, buildCells, int_beq, int_bne]; rfl, hno h⟩
  · have h : d < x ∧ x < b := by simpa using hbb.symm
    obtain ⟨g, hg, hQ⟩ := h70 h.1 h.2
    refine ⟨[], g, by simp [↓ev_loop, ev, evOps, evOp, wants, req, reqCall, inOf, evOpd, ofConst, ofCell, hands, Ann.mem, Env.get, Env.set, gives, handT, Op.operands, Call.operands, meet, putD, params, AV.strip, keepAt, lookN, Env.keep, binAV, intBinAV, headId, tidy, flagOp, nilConst, List.filterMap_cons, List.filterMap_nil, outOf, resAll, resOf, reifyR, reify, reifyP, clo, cloL, cloLL, cloEnv, loadBox, storeBox, okPut, buildElems, buildCells, int_beq, int_bne, hg], hQ⟩
end Go.Proofs.Ytlpilgnjlnepeaa.T
namespace Go.Proofs.Ytlpilgnjlnepeaa.T
open Go.VM Go.Proofs
set_option linter.unusedSimpArgs false
set_option maxHeartbeats 16000000
set_option maxRecDepth 10000

theorem le_of_not_ahead {x y : Act} (h : ¬ aheadB x y = true) : leA y x := Classical.not_not.1 fun h' => h ((ahead_iff _ _).2 h')
theorem le_of_ahead {x y : Act} (h : aheadB x y = true) : leA x y := (leA_total x y).elim id fun h' => absurd h' ((ahead_iff _ _).1 h)
theorem SW_le {f : Nat → Act} {a b i j : Nat} (h : SW f a b) (h1 : a ≤ i) (h2 : i ≤ j) (h3 : j < b) : leA (f i) (f j) := by
  by_cases h4 : i = j
  · rw [h4]; exact leA_refl _
  · exact h i j h1 (by omega) h3
theorem sw_shl (f : Nat → Act) (a b i : Nat) (hi1 : a < i) (hi2 : i ≤ b) (hs : SW f (a + 1) b) (h1 : ∀ k, a + 1 ≤ k → k < i → aheadB (f k) (f a) = true) (h2 : ∀ k, i ≤ k → k < b → ¬ aheadB (f k) (f a) = true) : SW (shlf f a (i - 1)) a b := by
  intro p r c1 c2 c3
  simp only [shlf]
  by_cases k1 : p < i - 1
  · rw [if_pos ⟨c1, k1⟩]
    by_cases k2 : r < i - 1
    · rw [if_pos ⟨by omega, k2⟩]; exact hs _ _ (by omega) (by omega) (by omega)
    · rw [if_neg (by omega)]
      by_cases k3 : r = i - 1
      · rw [if_pos k3]; exact le_of_ahead (h1 _ (by omega) (by omega))
      · rw [if_neg k3]; exact hs _ _ (by omega) (by omega) (by omega)
  · rw [if_neg (by omega)]
    by_cases k4 : p = i - 1
    · rw [if_pos k4, if_neg (by omega), if_neg (by omega)]; exact le_of_not_ahead (h2 _ (by omega) (by omega))
    · rw [if_neg k4, if_neg (by omega), if_neg (by omega)]; exact hs _ _ (by omega) (by omega) (by omega)
theorem sw_shr (f : Nat → Act) (a m i : Nat) (hi1 : a ≤ i) (hi2 : i ≤ m) (hs : SW f a m) (h1 : ∀ k, a ≤ k → k < i → ¬ aheadB (f m) (f k) = true) (h2 : ∀ k, i ≤ k → k < m → aheadB (f m) (f k) = true) : SW (shrf f m i) a (m + 1) := by
  intro p r c1 c2 c3
  simp only [shrf]
  by_cases k1 : p < i
  · rw [if_neg (by omega), if_neg (by omega)]
    by_cases k2 : r < i
    · rw [if_neg (by omega), if_neg (by omega)]; exact hs _ _ (by omega) (by omega) (by omega)
    · by_cases k3 : r = i
      · rw [if_neg (by omega), if_pos k3]; exact le_of_not_ahead (h1 _ (by omega) (by omega))
      · rw [if_pos (by omega)]; exact SW_le hs (by omega) (by omega) (by omega)
  · by_cases k4 : p = i
    · rw [if_neg (by omega), if_pos k4, if_pos (by omega)]; exact le_of_ahead (h2 _ (by omega) (by omega))
    · rw [if_pos (by omega), if_pos (by omega)]; exact hs _ _ (by omega) (by omega) (by omega)

/-- The two halves after the turn. -/
theorem sw_rot (f : Nat → Act) (a m b d i x : Nat) (ham : a ≤ i) (hi : i ≤ m) (hx : m ≤ x) (hxb : x ≤ b) (hd : d + m = i + x) (h1 : SW f a m) (h2 : SW f m b)
    (hlo : i = a ∨ x = b ∨ ¬ aheadB (f x) (f (i - 1)) = true) (hhi : i = m ∨ x = m ∨ aheadB (f (x - 1)) (f i) = true) :
    SW (rotf f i m x) a i ∧ SW (rotf f i m x) i d ∧ SW (rotf f i m x) d x ∧ SW (rotf f i m x) x b ∧ (∀ p r, a ≤ p → p < d → d ≤ r → r < b → leA (rotf f i m x p) (rotf f i m x r)) := by
  have e1 : ∀ k, k < i → rotf f i m x k = f k := by intro k hk; simp only [rotf]; rw [if_neg (by omega), if_neg (by omega)]
  have e2 : ∀ k, i ≤ k → k < d → rotf f i m x k = f (k + m - i) := by intro k hk hk2; simp only [rotf]; rw [if_pos (by omega)]
  have e3 : ∀ k, d ≤ k → k < x → rotf f i m x k = f (k - (x - m)) := by intro k hk hk2; simp only [rotf]; rw [if_neg (by omega), if_pos (by omega)]
  have e4 : ∀ k, x ≤ k → rotf f i m x k = f k := by intro k hk; simp only [rotf]; rw [if_neg (by omega), if_neg (by omega)]
  refine ⟨?_, ?_, ?_, ?_, ?_⟩
  · intro p r c1 c2 c3; rw [e1 p (by omega), e1 r c3]; exact h1 _ _ c1 c2 (by omega)
  · intro p r c1 c2 c3; rw [e2 p c1 (by omega), e2 r (by omega) c3]; exact h2 _ _ (by omega) (by omega) (by omega)
  · intro p r c1 c2 c3; rw [e3 p c1 (by omega), e3 r (by omega) c3]; exact h1 _ _ (by omega) (by omega) (by omega)
  · intro p r c1 c2 c3; rw [e4 p c1, e4 r (by omega)]; exact h2 _ _ (by omega) c2 c3
  · intro p r c1 c2 c3 c4
    by_cases k1 : p < i
    · rw [e1 p k1]
      by_cases k2 : r < x
      · rw [e3 r c3 k2]; exact SW_le h1 c1 (by omega) (by omega)
      · rw [e4 r (by omega)]
        rcases hlo with h | h | h
        · omega
        · omega
        · exact leA_trans (SW_le h1 c1 (by omega) (by omega)) (leA_trans (le_of_not_ahead h) (SW_le h2 (by omega) (by omega) c4))
    · rw [e2 p (by omega) c2]
      by_cases k2 : r < x
      · rw [e3 r c3 k2]
        rcases hhi with h | h | h
        · omega
        · omega
        · exact leA_trans (SW_le h2 (by omega) (by omega) (by omega)) (leA_trans (le_of_ahead h) (SW_le h1 (by omega) (by omega) (by omega)))
      · rw [e4 r (by omega)]; exact SW_le h2 (by omega) (by omega) c4
/-- Both halves merged: all of it is in order. -/
theorem sw_halves {g1 g2 g3 : Nat → Act} {a d b n : Nat} (hd : a ≤ d) (hdb : d ≤ b) (hx : ∀ p r, a ≤ p → p < d → d ≤ r → r < b → leA (g1 p) (g1 r)) (h12 : Mix a d n g1 g2) (hs2 : SW g2 a d) (h23 : Mix d b n g2 g3) (hs3 : SW g3 d b) : SW g3 a b := by
  intro p r c1 c2 c3
  by_cases k1 : r < d
  · rw [h23.1 p (by omega), h23.1 r (by omega)]; exact hs2 _ _ c1 c2 k1
  · by_cases k2 : p < d
    · rw [h23.1 p (by omega)]
      obtain ⟨p', q1, q2, q3⟩ := h12.2.1 p c1 k2
      obtain ⟨r', t1, t2, t3⟩ := h23.2.1 r (by omega) c3
      rw [q3, t3, h12.1 r' (by omega)]
      exact hx p' r' q1 q2 t1 t2
    · exact hs3 _ _ (by omega) c2 c3
end Go.Proofs.Ytlpilgnjlnepeaa.T
namespace Go.Proofs.Ytlpilgnjlnepeaa.T
open Go.VM Go.Proofs
set_option linter.unusedSimpArgs false
set_option maxHeartbeats 16000000
set_option maxRecDepth 10000

theorem sym70 (q v n : Nat) (hn : n ≤ 100000) : ∀ (w : Nat) (f : Nat → Act) (a m b : Nat), b - a < w → a < m → m < b → b ≤ n → SW f a m → SW f m b → ∀ (bs : List Nat) (H : List AO), q < H.length →
    ∃ g, callD X 70 [.arr q v 0 n, I a, I m, I b, .func 42 [] []] bs (H.set q (.arr v (tab f n))) = some (.tup [], H.set q (.arr v (tab g n))) ∧ SW g a b ∧ Mix a b n f g := by
  intro w
  induction w with
  | zero => intro f a m b h; omega
  | succ w ih =>
   intro f a m b hw ham hmb hb hs1 hs2 bs H hq
   have hmid := mid_ok a b (by omega) (by omega)
   obtain ⟨ma, hma⟩ : ∃ x, x = m - a := ⟨_, rfl⟩
   have wma : IntKind.i64.wrap ((m : Int) - (a : Int)) = (ma : Int) := wrap_n _ _ (by omega) (by omega)
   obtain ⟨bm, hbm⟩ : ∃ x, x = b - m := ⟨_, rfl⟩
   have wbm : IntKind.i64.wrap ((b : Int) - (m : Int)) = (bm : Int) := wrap_n _ _ (by omega) (by omega)
   rw [callD_eq]
   simp only [Xprim]
   unfold runBody
   simp only [XP, Try.func70, Xan70, Xok70]
   obtain ⟨c1, hc1⟩ : ∃ c, (seqs (Try.f70.body.getD .skip))[1]? = some c := ⟨_, rfl⟩
   obtain ⟨c3, hc3⟩ : ∃ c, (seqs (Try.f70.body.getD .skip))[3]? = some c := ⟨_, rfl⟩
   obtain ⟨c8, hc8⟩ : ∃ c, (seqs (Try.f70.body.getD .skip))[8]? = some c := ⟨_, rfl⟩
   obtain ⟨c10, hc10⟩ : ∃ c, (seqs (Try.f70.body.getD .skip))[10]? = some c := ⟨_, rfl⟩
   obtain ⟨c12, hc12⟩ : ∃ c, (seqs (Try.f70.body.getD .skip))[12]? = some c := ⟨_, rfl⟩
   obtain ⟨c13, hc13⟩ : ∃ c, (seqs (Try.f70.body.getD .skip))[13]? = some c := ⟨_, rfl⟩
   obtain ⟨c14, hc14⟩ : ∃ c, (seqs (Try.f70.body.getD .skip))[14]? = some c := ⟨_, rfl⟩
   obtain ⟨c15, hc15⟩ : ∃ c, (seqs (Try.f70.body.getD .skip))[15]? = some c := ⟨_, rfl⟩
   obtain ⟨c16, hc16⟩ : ∃ c, (seqs (Try.f70.body.getD .skip))[16]? = some c := ⟨_, rfl⟩
   obtain ⟨c17, hc17⟩ : ∃ c, (seqs (Try.f70.body.getD .skip))[17]? = some c := ⟨_, rfl⟩
   obtain ⟨l0, hl0⟩ : ∃ c, (loops (Try.f70.body.getD .skip))[0]? = some c := ⟨_, rfl⟩
   obtain ⟨l1, hl1⟩ : ∃ c, (loops (Try.f70.body.getD .skip))[1]? = some c := ⟨_, rfl⟩
   obtain ⟨l2, hl2⟩ : ∃ c, (loops (Try.f70.body.getD .skip))[2]? = some c := ⟨_, rfl⟩
   obtain ⟨l3, hl3⟩ : ∃ c, (loops (Try.f70.body.getD .skip))[3]? = some c := ⟨_, rfl⟩
   obtain ⟨l4, hl4⟩ : ∃ c, (loops (Try.f70.body.getD .skip))[4]? = some c := ⟨_, rfl⟩
   have hd1 := hc1
   simp only [Try.f70, seqs, List.cons_append, List.nil_append, List.append_nil, List.getElem?_cons_zero, List.getElem?_cons_succ, Option.getD_some, Option.some.injEq] at hd1
   have hd3 := hc3
   simp only [Try.f70, seqs, List.cons_append, List.nil_append, List.append_nil, List.getElem?_cons_zero, List.getElem?_cons_succ, Option.getD_some, Option.some.injEq] at hd3
   have hd8 := hc8
   simp only [Try.f70, seqs, List.cons_append, List.nil_append, List.append_nil, List.getElem?_cons_zero, List.getElem?_cons_succ, Option.getD_some, Option.some.injEq] at hd8
   have hd10 := hc10
   simp only [Try.f70, seqs, List.cons_append, List.nil_append, List.append_nil, List.getElem?_cons_zero, List.getElem?_cons_succ, Option.getD_some, Option.some.injEq] at hd10
   have hd12 := hc12
   simp only [Try.f70, seqs, List.cons_append, List.nil_append, List.append_nil, List.getElem?_cons_zero, List.getElem?_cons_succ, Option.getD_some, Option.some.injEq] at hd12
   have hd13 := hc13
   simp only [Try.f70, seqs, List.cons_append, List.nil_append, List.append_nil, List.getElem?_cons_zero, List.getElem?_cons_succ, Option.getD_some, Option.some.injEq] at hd13
   have hd14 := hc14
   simp only [Try.f70, seqs, List.cons_append, List.nil_append, List.append_nil, List.getElem?_cons_zero, List.getElem?_cons_succ, Option.getD_some, Option.some.injEq] at hd14
   have hd15 := hc15
   simp only [Try.f70, seqs, List.cons_append, List.nil_append, List.append_nil, List.getElem?_cons_zero, List.getElem?_cons_succ, Option.getD_some, Option.some.injEq] at hd15
   have hd16 := hc16
   simp only [Try.f70, seqs, List.cons_append, List.nil_append, List.append_nil, List.getElem?_cons_zero, List.getElem?_cons_succ, Option.getD_some, Option.some.injEq] at hd16
   have hd17 := hc17
   simp only [Try.f70, seqs, List.cons_append, List.nil_append, List.append_nil, List.getElem?_cons_zero, List.getElem?_cons_succ, Option.getD_some, Option.some.injEq] at hd17
   simp only [Try.f70]
   rw [hd1, hd3, hd8, hd10, hd12, hd13, hd14, hd15, hd16, hd17]
   by_cases h1 : ma = 1
   · obtain ⟨e', i, h2, h3, h4, h5, h6, h7⟩ := p70_1t f q v a m b n (H.length :: bs) H hq hn (by omega) hmb hb hs2 c1 hc1 l0 hl0 l1 hl1
     have hm1 : m = a + 1 := by omega
     refine ⟨shlf f a (i - 1), ?_, ?_, h7⟩
     · simp [↓ev_loop, ev, evOps, evOp, wants, req, reqCall, inOf, evOpd, ofConst, ofCell, hands, Ann.mem, Env.get, Env.set, gives, handT, Op.operands, Call.operands, meet, putD, params, AV.strip, keepAt, lookN, Env.keep, binAV, intBinAV, headId, tidy, flagOp, nilConst, List.filterMap_cons, List.filterMap_nil, outOf, resAll, resOf, reifyR, reify, reifyP, clo, cloL, cloLL, cloEnv, loadBox, storeBox, okPut, buildElems, buildCells, int_beq, int_bne, wma, h1, h2, take_q0]
     · subst hm1
       exact sw_shl f a b i (by omega) h4 hs2 h5 h6
   have hi1 : ¬ (ma : Int) = 1 := by omega
   have h1f := fun e he bs H => p70_1f e he bs H c1 hc1
   by_cases h3 : bm = 1
   · obtain ⟨e', i, h2, h3', h4, h5, h6, h7⟩ := p70_3t f q v a m b n (H.length :: bs) H hq hn ham (by omega) hb hs1 c3 hc3 l2 hl2 l3 hl3
     have hm1 : b = m + 1 := by omega
     refine ⟨shrf f m i, ?_, ?_, h7⟩
     · have hx := h1f [(0, .arr q v 0 n), (1, I a), (2, I m), (3, I b), (4, .func 42 [] []), (28, .bool false)] rfl (H.length :: bs) (H.set q (.arr v (tab f n)))
       simp [↓ev_loop, ev, evOps, evOp, wants, req, reqCall, inOf, evOpd, ofConst, ofCell, hands, Ann.mem, Env.get, Env.set, gives, handT, Op.operands, Call.operands, meet, putD, params, AV.strip, keepAt, lookN, Env.keep, binAV, intBinAV, headId, tidy, flagOp, nilConst, List.filterMap_cons, List.filterMap_nil, outOf, resAll, resOf, reifyR, reify, reifyP, clo, cloL, cloLL, cloEnv, loadBox, storeBox, okPut, buildElems, buildCells, int_beq, int_bne, wma, hi1, hx, wbm, h3, h2, take_q0]
     · subst hm1
       exact sw_shr f a m i h3' h4 hs1 h5 h6
   have hi3 : ¬ (bm : Int) = 1 := by omega
   obtain ⟨d, hdd⟩ : ∃ d, d = (a + b) / 2 := ⟨_, rfl⟩
   rw [← hdd] at hmid
   obtain ⟨nn, hnn⟩ : ∃ x, x = d + m := ⟨_, rfl⟩
   have wnn : IntKind.i64.wrap ((d : Int) + (m : Int)) = (nn : Int) := wrap_n _ _ (by omega) (by omega)
   obtain ⟨p, hp⟩ : ∃ x, x = nn - 1 := ⟨_, rfl⟩
   have wp : IntKind.i64.wrap ((nn : Int) - 1) = (p : Int) := wrap_n _ _ (by omega) (by omega)
   obtain ⟨u, r0, hur⟩ : ∃ u r0, (d < m → u + b = nn ∧ r0 = d) ∧ (¬ d < m → u = a ∧ r0 = m) := by
     by_cases h : d < m
     · exact ⟨nn - b, d, fun _ => ⟨by omega, rfl⟩, fun h' => absurd h h'⟩
     · exact ⟨a, m, fun h' => absurd h' h, fun _ => ⟨rfl, rfl⟩⟩
   have hur2 : u ≤ r0 ∧ a ≤ u ∧ r0 ≤ m ∧ r0 ≤ d := by
     by_cases h : d < m
     · have := hur.1 h; omega
     · have := hur.2 h; omega
   have hcc : ∀ c, u ≤ c → c < r0 → c ≤ p ∧ p - c < n := by
     intro c c1 c2
     by_cases h : d < m
     · have := hur.1 h; omega
     · have := hur.2 h; omega
   have hx1 := h1f [(0, .arr q v 0 n), (1, I a), (2, I m), (3, I b), (4, .func 42 [] []), (28, .bool false)] rfl (H.length :: bs) (H.set q (.arr v (tab f n)))
   have hx3 := p70_3f [(0, .arr q v 0 n), (1, I a), (2, I m), (3, I b), (4, .func 42 [] []), (80, .bool false)] rfl (H.length :: bs) (H.set q (.arr v (tab f n))) c3 hc3
   have h8 := p70_8 q v a m b n d nn u r0 hur (by omega) (H.length :: bs) (H.set q (.arr v (tab f n))) c8 hc8
   obtain ⟨e10, i, h10, g0, g1, g2, g3, g4, g18, g19, g20, hiu, hir, hlo, hhi⟩ := p70_10 f q v a m b n d nn p u r0 (H.length :: bs) H hq hn hur2.1 (by omega) hcc c10 hc10 l4 hl4
   obtain ⟨x, hxx⟩ : ∃ x, x = nn - i := ⟨_, rfl⟩
   have wx : IntKind.i64.wrap ((nn : Int) - (i : Int)) = (x : Int) := wrap_n _ _ (by omega) (by omega)
   have hxb : x ≤ b := by
     by_cases h : d < m
     · have := hur.1 h; omega
     · have := hur.2 h; omega
   have h12 := p70_12 q v a m b n d i x (H.length :: bs) (H.set q (.arr v (tab f n))) c12 hc12
   obtain ⟨e13, h13, k0, k1, k3, k4, k18, k20, k24, hm13⟩ := p70_13 f q v a m b n d i x _ rfl hn (by omega) (by omega) (by omega) (H.length :: bs) H hq c13 hc13
   obtain ⟨sw1, sw2, sw3, sw4, hcross⟩ := sw_rot f a m b d i x (by omega) (by omega) (by omega) hxb (by omega) hs1 hs2
     (by
       rcases hlo with h | h
       · by_cases h' : d < m
         · have := hur.1 h'; omega
         · have := hur.2 h'; omega
       · by_cases h0 : i = 0
         · omega
         · rw [show p - (i - 1) = x by omega] at h; exact .inr (.inr h))
     (by
       rcases hhi with h | h
       · by_cases h' : d < m
         · have := hur.1 h'; omega
         · have := hur.2 h'; omega
       · rw [show p - i = x - 1 by omega] at h; exact .inr (.inr h))
   generalize rotf f i m x = f1 at *
   have h14 := p70_14 q v a b n d i x e13 k0 k1 k3 k4 k18 k20 k24 (H.length :: bs) (H.set q (.arr v (tab f1 n))) c14 hc14
   obtain ⟨e15, f2, h15, t0, t3, t4, t18, t24, sw5, hm15⟩ := p70_15 f1 q v a b n d i x _ rfl (H.length :: bs) H (fun g => SW g a d ∧ Mix a d n f1 g)
     (fun h1 h2 => ih f1 a i d (by omega) h1 h2 (by omega) sw1 sw2 (H.length :: bs) H hq)
     (fun h => ⟨by
       by_cases h' : a < i
       · have hid : i = d := by omega
         rw [← hid]; exact sw1
       · have hia : i = a := by omega
         rw [← hia]; exact sw2, Mix.refl _ _ _ _⟩) c15 hc15
   have h16 := p70_16 q v b n d x e15 t0 t3 t4 t18 t24 (H.length :: bs) (H.set q (.arr v (tab f2 n))) c16 hc16
   have sw3' : SW f2 d x := fun p r c1 c2 c3 => by rw [hm15.1 p (by omega), hm15.1 r (by omega)]; exact sw3 p r c1 c2 c3
   have sw4' : SW f2 x b := fun p r c1 c2 c3 => by rw [hm15.1 p (by omega), hm15.1 r (by omega)]; exact sw4 p r c1 c2 c3
   obtain ⟨e17, f3, h17, sw6, hm17⟩ := p70_17 f2 q v b n d x _ rfl (H.length :: bs) H (fun g => SW g d b ∧ Mix d b n f2 g)
     (fun h1 h2 => ih f2 d x b (by omega) h1 h2 hb sw3' sw4' (H.length :: bs) H hq)
     (fun h => ⟨by
       by_cases h' : d < x
       · have hid : x = b := by omega
         rw [← hid]; exact sw3'
       · have hia : x = d := by omega
         rw [← hia]; exact sw4', Mix.refl _ _ _ _⟩) c17 hc17
   refine ⟨f3, ?_, sw_halves (by omega) (by omega) hcross hm15 sw5 hm17 sw6, ((hm13.mono (by omega) hxb).trans (hm15.mono (Nat.le_refl _) (by omega))).trans (hm17.mono (by omega) (Nat.le_refl _))⟩
   simp [↓ev_loop, ev, evOps, evOp, wants, req, reqCall, inOf, evOpd, ofConst, ofCell, hands, Ann.mem, Env.get, Env.set, gives, handT, Op.operands, Call.operands, meet, putD, params, AV.strip, keepAt, lookN, Env.keep, binAV, intBinAV, headId, tidy, flagOp, nilConst, List.filterMap_cons, List.filterMap_nil, outOf, resAll, resOf, reifyR, reify, reifyP, clo, cloL, cloLL, cloEnv, loadBox, storeBox, okPut, buildElems, buildCells, int_beq, int_bne, wma, hi1, hx1, wbm, hi3, hx3, hmid, wnn, h8, wp, h10, g0, g1, g2, g3, g4, g18, g19, g20, wx, h12, h13, h14, h15, h16, h17, take_q0]
end Go.Proofs.Ytlpilgnjlnepeaa.T
namespace Go.Proofs.Ytlpilgnjlnepeaa.T
open Go.VM Go.Proofs
set_option linter.unusedSimpArgs false
set_option maxHeartbeats 16000000
set_option maxRecDepth 10000

theorem dvd_gap {k c a : Nat} (hk : 0 < k) (h1 : k ∣ c) (h2 : k ∣ a) (h : c < a) : c + k ≤ a := by
  obtain ⟨x, rfl⟩ := h1
  obtain ⟨y, rfl⟩ := h2
  have : x < y := Nat.lt_of_mul_lt_mul_left h
  calc k * x + k = k * (x + 1) := by rw [Nat.mul_add, Nat.mul_one]
    _ ≤ k * y := Nat.mul_le_mul_left _ this
/-- in order within the blocks of size s -/
def BS (g : Nat → Act) (s n : Nat) : Prop := ∀ c, s ∣ c → SW g c (min (c + s) n)
theorem SW_out {f g : Nat → Act} {a b c e n : Nat} (h : Mix a b n f g) (hs : SW f c e) (hd : e ≤ a ∨ b ≤ c) : SW g c e := by
  intro p r c1 c2 c3; rw [h.1 p (by omega), h.1 r (by omega)]; exact hs p r c1 c2 c3

theorem lp57_0 (f : Nat → Act) (q v n : Nat) (bs : List Nat) (H : List AO) (c0 : Code) (hc0 : (loops (Try.f57.body.getD .skip))[0]? = some c0) (hq : q < H.length) (hn : n ≤ 100000) :
    ∃ x e' H', lev Try.prog an57 (callD X) c0 bs ((fun s : Nat × (Nat → Act) => [(0, .arr q v 0 n), (1, I n), (2, .func 42 [] []), (6, I 20), (7, I s.1), (8, I ((s.1 + 20 : Nat)))]) ((0, f))) ((fun s : Nat × (Nat → Act) => H.set q (.arr v (tab s.2 n))) ((0, f))) = some (x, e', H') ∧ (∃ (a : Nat) (g : Nat → Act), H' = H.set q (.arr v (tab g n)) ∧ x = .exit 0 ∧ e'.get 0 = .arr q v 0 n ∧ e'.get 1 = I n ∧ e'.get 2 = .func 42 [] [] ∧ e'.get 6 = I 20 ∧ e'.get 7 = I a ∧ 20 ∣ a ∧ a ≤ n ∧ n < a + 20 ∧ (∀ c, 20 ∣ c → c + 20 ≤ a → SW g c (c + 20)) ∧ Mix 0 n n f g) := by
  simp only [Try.f57, loops, List.cons_append, List.nil_append, List.append_nil, List.getElem?_cons_zero, List.getElem?_cons_succ, Option.getD_some, Option.some.injEq] at hc0
  refine lev_inv (σ := Nat × (Nat → Act)) (fun s => [(0, .arr q v 0 n), (1, I n), (2, .func 42 [] []), (6, I 20), (7, I s.1), (8, I ((s.1 + 20 : Nat)))]) (fun s => H.set q (.arr v (tab s.2 n))) (fun s => 20 ∣ s.1 ∧ s.1 ≤ n ∧ (∀ c, 20 ∣ c → c + 20 ≤ s.1 → SW s.2 c (c + 20)) ∧ Mix 0 n n f s.2) (fun s => n - s.1) (fun x e' H' => ∃ (a : Nat) (g : Nat → Act), H' = H.set q (.arr v (tab g n)) ∧ x = .exit 0 ∧ e'.get 0 = .arr q v 0 n ∧ e'.get 1 = I n ∧ e'.get 2 = .func 42 [] [] ∧ e'.get 6 = I 20 ∧ e'.get 7 = I a ∧ 20 ∣ a ∧ a ≤ n ∧ n < a + 20 ∧ (∀ c, 20 ∣ c → c + 20 ≤ a → SW g c (c + 20)) ∧ Mix 0 n n f g) ((0, f)) ?_ ?_ ?_ ?_ ?_
  · exact ⟨⟨0, rfl⟩, Nat.zero_le _, fun c _ h => by simp only at h; omega, Mix.refl _ _ _ _⟩
  · intro s hs; simp
  · intro s hs; simp [cloEnv, clo, cloL, S, hq]
  · intro s hs; subst hc0; simp [keepAt, headId, lookN, Env.keep, Env.get]
  intro s hs
  subst hc0
  obtain ⟨a, g⟩ := s
  obtain ⟨h1, h2, hs, hm⟩ := hs
  simp only at h1 h2 hs hm ⊢
  obtain ⟨b, hb⟩ : ∃ b, b = a + 20 := ⟨_, rfl⟩
  rw [← hb]
  by_cases hbn : b ≤ n
  · left
    have hbn2 : (b : Int) ≤ (n : Int) := by omega
    obtain ⟨g', h69, hs2, hm2⟩ := ins69 g q v a b n hn (by omega) hbn ((H.set q (.arr v (tab g n))).length :: bs) H hq
    have hw : IntKind.i64.wrap ((b : Int) + 20) = ((b + 20 : Nat) : Int) := wrap_n _ _ (by omega) (by omega)
    refine ⟨(b, g'), ?_, ⟨by rw [hb]; exact Nat.dvd_add h1 (Nat.dvd_refl _), hbn, ?_, hm.trans (hm2.mono (Nat.zero_le _) hbn)⟩, by simp only; omega⟩
    · simp at h69
      simp [↓ev_loop, ev, evOps, evOp, wants, req, reqCall, inOf, evOpd, ofConst, ofCell, hands, Ann.mem, Env.get, Env.set, gives, handT, Op.operands, Call.operands, meet, putD, params, AV.strip, keepAt, lookN, Env.keep, binAV, intBinAV, headId, tidy, flagOp, nilConst, List.filterMap_cons, List.filterMap_nil, outOf, resAll, resOf, reifyR, reify, reifyP, clo, cloL, cloLL, cloEnv, loadBox, storeBox, okPut, buildElems, buildCells, int_beq, int_bne, hbn, hbn2, h69, hw, take_q0]
    · intro c c1 c2
      simp only at c2 ⊢
      by_cases hc : c < a
      · exact SW_out hm2 (hs c c1 (dvd_gap (by omega) c1 h1 hc)) (.inl (dvd_gap (by omega) c1 h1 hc))
      · have : c = a := by omega
        subst this; rw [← hb]; exact hs2
  · right
    have hbn2 : ¬ (b : Int) ≤ (n : Int) := by omega
    refine out_of (.exit 0) [(0, .arr q v 0 n), (1, I n), (2, .func 42 [] []), (6, I 20), (7, I a), (8, I b), (13, .bool false)] (H.set q (.arr v (tab g n))) ?_ (by simp) ?_
    · simp [↓ev_loop, ev, evOps, evOp, wants, req, reqCall, inOf, evOpd, ofConst, ofCell, hands, Ann.mem, Env.get, Env.set, gives, handT, Op.operands, Call.operands, meet, putD, params, AV.strip, keepAt, lookN, Env.keep, binAV, intBinAV, headId, tidy, flagOp, nilConst, List.filterMap_cons, List.filterMap_nil, outOf, resAll, resOf, reifyR, reify, reifyP, clo, cloL, cloLL, cloEnv, loadBox, storeBox, okPut, buildElems, buildCells, int_beq, int_bne, hbn, hbn2]
    · exact ⟨a, g, rfl, rfl, rfl, rfl, rfl, rfl, rfl, h1, h2, by omega, hs, hm⟩

theorem lp57_2 (f : Nat → Act) (q v n s0 : Nat) (bs : List Nat) (H : List AO) (c2 : Code) (hc2 : (loops (Try.f57.body.getD .skip))[2]? = some c2) (hq : q < H.length) (hn : n ≤ 100000) (hs0 : 0 < s0) (hsn : s0 < n) (hbs : BS f s0 n) :
    ∃ x e' H', lev Try.prog an57 (callD X) c2 bs ((fun s : Nat × (Nat → Act) => [(0, .arr q v 0 n), (1, I n), (2, .func 42 [] []), (6, I s0), (7, I s.1), (8, I ((s.1 + 2 * s0 : Nat)))]) ((0, f))) ((fun s : Nat × (Nat → Act) => H.set q (.arr v (tab s.2 n))) ((0, f))) = some (x, e', H') ∧ (∃ (a : Nat) (g : Nat → Act), H' = H.set q (.arr v (tab g n)) ∧ x = .exit 4 ∧ e'.get 0 = .arr q v 0 n ∧ e'.get 1 = I n ∧ e'.get 2 = .func 42 [] [] ∧ e'.get 6 = I s0 ∧ e'.get 7 = I a ∧ 2 * s0 ∣ a ∧ a ≤ n ∧ n < a + 2 * s0 ∧ (∀ c, 2 * s0 ∣ c → c + 2 * s0 ≤ a → SW g c (c + 2 * s0)) ∧ (∀ c, s0 ∣ c → a ≤ c → SW g c (min (c + s0) n)) ∧ Mix 0 n n f g) := by
  simp only [Try.f57, loops, List.cons_append, List.nil_append, List.append_nil, List.getElem?_cons_zero, List.getElem?_cons_succ, Option.getD_some, Option.some.injEq] at hc2
  refine lev_inv (σ := Nat × (Nat → Act)) (fun s => [(0, .arr q v 0 n), (1, I n), (2, .func 42 [] []), (6, I s0), (7, I s.1), (8, I ((s.1 + 2 * s0 : Nat)))]) (fun s => H.set q (.arr v (tab s.2 n))) (fun s => 2 * s0 ∣ s.1 ∧ s.1 ≤ n ∧ (∀ c, 2 * s0 ∣ c → c + 2 * s0 ≤ s.1 → SW s.2 c (c + 2 * s0)) ∧ (∀ c, s0 ∣ c → s.1 ≤ c → SW s.2 c (min (c + s0) n)) ∧ Mix 0 n n f s.2) (fun s => n - s.1) (fun x e' H' => ∃ (a : Nat) (g : Nat → Act), H' = H.set q (.arr v (tab g n)) ∧ x = .exit 4 ∧ e'.get 0 = .arr q v 0 n ∧ e'.get 1 = I n ∧ e'.get 2 = .func 42 [] [] ∧ e'.get 6 = I s0 ∧ e'.get 7 = I a ∧ 2 * s0 ∣ a ∧ a ≤ n ∧ n < a + 2 * s0 ∧ (∀ c, 2 * s0 ∣ c → c + 2 * s0 ≤ a → SW g c (c + 2 * s0)) ∧ (∀ c, s0 ∣ c → a ≤ c → SW g c (min (c + s0) n)) ∧ Mix 0 n n f g) ((0, f)) ?_ ?_ ?_ ?_ ?_
  · exact ⟨⟨0, by simp⟩, Nat.zero_le _, fun c _ h => by simp only at h; omega, fun c h _ => hbs c h, Mix.refl _ _ _ _⟩
  · intro s hs; simp
  · intro s hs; simp [cloEnv, clo, cloL, S, hq]
  · intro s hs; subst hc2; simp [keepAt, headId, lookN, Env.keep, Env.get]
  intro s hs
  subst hc2
  obtain ⟨a, g⟩ := s
  obtain ⟨h1, h2, hs, hs2, hm⟩ := hs
  simp only at h1 h2 hs hs2 hm ⊢
  obtain ⟨b, hb⟩ : ∃ b, b = a + 2 * s0 := ⟨_, rfl⟩
  rw [← hb]
  have hd1 : s0 ∣ a := Nat.dvd_trans ⟨2, by omega⟩ h1
  by_cases hbn : b ≤ n
  · left
    have hbn2 : (b : Int) ≤ (n : Int) := by omega
    obtain ⟨m, hmm⟩ : ∃ m, m = a + s0 := ⟨_, rfl⟩
    have wm : IntKind.i64.wrap ((a : Int) + (s0 : Int)) = (m : Int) := wrap_n _ _ (by omega) (by omega)
    obtain ⟨s2, hss⟩ : ∃ s2, s2 = 2 * s0 := ⟨_, rfl⟩
    have ws : IntKind.i64.wrap (2 * (s0 : Int)) = (s2 : Int) := wrap_n _ _ (by omega) (by omega)
    obtain ⟨b2, hb2⟩ : ∃ b2, b2 = b + s2 := ⟨_, rfl⟩
    have wb : IntKind.i64.wrap ((b : Int) + (s2 : Int)) = (b2 : Int) := wrap_n _ _ (by omega) (by omega)
    have k1 := hs2 a hd1 (Nat.le_refl _)
    rw [Nat.min_eq_left (by omega), ← hmm] at k1
    have k2 := hs2 m (by rw [hmm]; exact Nat.dvd_add hd1 (Nat.dvd_refl _)) (by omega)
    rw [Nat.min_eq_left (by omega), show m + s0 = b by omega] at k2
    obtain ⟨g', h70, hs3, hm2⟩ := sym70 q v n hn _ g a m b (Nat.lt_succ_self _) (by omega) (by omega) hbn k1 k2 ((H.set q (.arr v (tab g n))).length :: bs) H hq
    refine ⟨(b, g'), ?_, ⟨by rw [hb]; exact Nat.dvd_add h1 (Nat.dvd_refl _), hbn, ?_, ?_, hm.trans (hm2.mono (Nat.zero_le _) hbn)⟩, by simp only; omega⟩
    · simp only
      rw [show b + 2 * s0 = b2 by omega]
      simp at h70
      simp [↓ev_loop, ev, evOps, evOp, wants, req, reqCall, inOf, evOpd, ofConst, ofCell, hands, Ann.mem, Env.get, Env.set, gives, handT, Op.operands, Call.operands, meet, putD, params, AV.strip, keepAt, lookN, Env.keep, binAV, intBinAV, headId, tidy, flagOp, nilConst, List.filterMap_cons, List.filterMap_nil, outOf, resAll, resOf, reifyR, reify, reifyP, clo, cloL, cloLL, cloEnv, loadBox, storeBox, okPut, buildElems, buildCells, int_beq, int_bne, hbn, hbn2, wm, ws, wb, h70, take_q0]
    · intro c c1 c2
      simp only at c2 ⊢
      by_cases hc : c < a
      · exact SW_out hm2 (hs c c1 (dvd_gap (by omega) c1 h1 hc)) (.inl (dvd_gap (by omega) c1 h1 hc))
      · have : c = a := by omega
        subst this; rw [← hb]; exact hs3
    · intro c c1 c2
      exact SW_out hm2 (hs2 c c1 (by simp only at c2; omega)) (.inr c2)
  · right
    have hbn2 : ¬ (b : Int) ≤ (n : Int) := by omega
    refine out_of (.exit 4) [(0, .arr q v 0 n), (1, I n), (2, .func 42 [] []), (6, I s0), (7, I a), (8, I b), (35, .bool false)] (H.set q (.arr v (tab g n))) ?_ (by simp) ?_
    · simp [↓ev_loop, ev, evOps, evOp, wants, req, reqCall, inOf, evOpd, ofConst, ofCell, hands, Ann.mem, Env.get, Env.set, gives, handT, Op.operands, Call.operands, meet, putD, params, AV.strip, keepAt, lookN, Env.keep, binAV, intBinAV, headId, tidy, flagOp, nilConst, List.filterMap_cons, List.filterMap_nil, outOf, resAll, resOf, reifyR, reify, reifyP, clo, cloL, cloLL, cloEnv, loadBox, storeBox, okPut, buildElems, buildCells, int_beq, int_bne, hbn, hbn2]
    · exact ⟨a, g, rfl, rfl, rfl, rfl, rfl, rfl, rfl, h1, h2, by omega, hs, hs2, hm⟩

theorem lp57_1 (f : Nat → Act) (q v n : Nat) (bs : List Nat) (H : List AO) (c1 : Code) (hc1 : (loops (Try.f57.body.getD .skip))[1]? = some c1) (c2 : Code) (hc2 : (loops (Try.f57.body.getD .skip))[2]? = some c2) (hq : q < H.length) (hn : n ≤ 100000) (hbs : BS f 20 n) :
    ∃ x e' H', lev Try.prog an57 (callD X) c1 bs ((fun s : Nat × (Nat → Act) => [(0, .arr q v 0 n), (1, I n), (2, .func 42 [] []), (6, I s.1)]) ((20, f))) ((fun s : Nat × (Nat → Act) => H.set q (.arr v (tab s.2 n))) ((20, f))) = some (x, e', H') ∧ (∃ (g : Nat → Act), H' = H.set q (.arr v (tab g n)) ∧ x = .exit 2 ∧ SW g 0 n ∧ Mix 0 n n f g) := by
  have hc2' := hc2
  simp only [Try.f57, loops, List.cons_append, List.nil_append, List.append_nil, List.getElem?_cons_zero, List.getElem?_cons_succ, Option.getD_some, Option.some.injEq] at hc1
  simp only [Try.f57, loops, List.cons_append, List.nil_append, List.append_nil, List.getElem?_cons_zero, List.getElem?_cons_succ, Option.getD_some, Option.some.injEq] at hc2
  refine lev_inv (σ := Nat × (Nat → Act)) (fun s => [(0, .arr q v 0 n), (1, I n), (2, .func 42 [] []), (6, I s.1)]) (fun s => H.set q (.arr v (tab s.2 n))) (fun s => 0 < s.1 ∧ BS s.2 s.1 n ∧ Mix 0 n n f s.2 ∧ s.1 ≤ 400000) (fun s => n - s.1) (fun x e' H' => ∃ (g : Nat → Act), H' = H.set q (.arr v (tab g n)) ∧ x = .exit 2 ∧ SW g 0 n ∧ Mix 0 n n f g) ((20, f)) ?_ ?_ ?_ ?_ ?_
  · exact ⟨by simp, hbs, Mix.refl _ _ _ _, by simp⟩
  · intro s hs; simp
  · intro s hs; simp [cloEnv, clo, cloL, S, hq]
  · intro s hs; subst hc1; simp [keepAt, headId, lookN, Env.keep, Env.get]
  intro s hs
  subst hc1
  (try rw [hc2])
  obtain ⟨s0, g⟩ := s
  obtain ⟨h1, h2, hm, h4⟩ := hs
  simp only at h1 h2 hm h4 ⊢
  by_cases hsn : s0 < n
  · left
    have hsn2 : (s0 : Int) < (n : Int) := by omega
    obtain ⟨s2, hss⟩ : ∃ s2, s2 = 2 * s0 := ⟨_, rfl⟩
    have ws : IntKind.i64.wrap (2 * (s0 : Int)) = (s2 : Int) := wrap_n _ _ (by omega) (by omega)
    have ws' : IntKind.i64.wrap ((s0 : Int) * 2) = (s2 : Int) := wrap_n _ _ (by omega) (by omega)
    obtain ⟨x, e', H', h3, a, g1, rfl, rfl, e0, e1, e2, e6, e7, hd, han, hna, hb1, hb2, hm1⟩ := lp57_2 g q v n s0 ((H.set q (.arr v (tab g n))).length :: bs) H c2 hc2' hq hn h1 hsn h2
    obtain ⟨m, hmm⟩ : ∃ m, m = a + s0 := ⟨_, rfl⟩
    have wm : IntKind.i64.wrap ((a : Int) + (s0 : Int)) = (m : Int) := wrap_n _ _ (by omega) (by omega)
    have hd1 : s0 ∣ a := Nat.dvd_trans ⟨2, by omega⟩ hd
    simp only [S, List.map_nil, Int.ofNat_eq_natCast, Int.natCast_zero, List.length_append, List.length_cons, List.length_nil, Nat.zero_add, Nat.reduceAdd] at h3
    rw [← hss] at h3
    simp at h3
    by_cases hmn : m < n
    · have hmn2 : (m : Int) < (n : Int) := by omega
      have k1 := hb2 a hd1 (Nat.le_refl _)
      rw [Nat.min_eq_left (by omega), ← hmm] at k1
      have k2 := hb2 m (by rw [hmm]; exact Nat.dvd_add hd1 (Nat.dvd_refl _)) (by omega)
      rw [Nat.min_eq_right (by omega)] at k2
      obtain ⟨g', h70, hs3, hm2⟩ := sym70 q v n hn _ g1 a m n (Nat.lt_succ_self _) (by omega) hmn (Nat.le_refl _) k1 k2 ((H.set q (.arr v (tab g n))).length :: bs) H hq
      simp at h70
      refine ⟨(s2, g'), ?_, ⟨by simp only; omega, ?_, (hm.trans hm1).trans (hm2.mono (Nat.zero_le _) (Nat.le_refl _)), by simp only; omega⟩, by simp only; omega⟩
      · simp [↓ev_loop, ev, evOps, evOp, wants, req, reqCall, inOf, evOpd, ofConst, ofCell, hands, Ann.mem, Env.get, Env.set, gives, handT, Op.operands, Call.operands, meet, putD, params, AV.strip, keepAt, lookN, Env.keep, binAV, intBinAV, headId, tidy, flagOp, nilConst, List.filterMap_cons, List.filterMap_nil, outOf, resAll, resOf, reifyR, reify, reifyP, clo, cloL, cloLL, cloEnv, loadBox, storeBox, okPut, buildElems, buildCells, int_beq, int_bne, hsn, hsn2, ws, ws', h3, e0, e1, e2, e6, e7, wm, hmn, hmn2, h70, take_q0]
      · intro c c1
        simp only [hss] at c1 ⊢
        by_cases hc : c < a
        · have := dvd_gap (by omega) c1 hd hc
          rw [Nat.min_eq_left (by omega)]
          exact SW_out hm2 (hb1 c c1 this) (.inl this)
        · by_cases hc2 : c = a
          · subst hc2; rw [Nat.min_eq_right (by omega)]; exact hs3
          · have := dvd_gap (by omega) hd c1 (by omega)
            intro p r c3 c4 c5; omega
    · have hmn2 : ¬ (m : Int) < (n : Int) := by omega
      refine ⟨(s2, g1), ?_, ⟨by simp only; omega, ?_, hm.trans hm1, by simp only; omega⟩, by simp only; omega⟩
      · simp [↓ev_loop, ev, evOps, evOp, wants, req, reqCall, inOf, evOpd, ofConst, ofCell, hands, Ann.mem, Env.get, Env.set, gives, handT, Op.operands, Call.operands, meet, putD, params, AV.strip, keepAt, lookN, Env.keep, binAV, intBinAV, headId, tidy, flagOp, nilConst, List.filterMap_cons, List.filterMap_nil, outOf, resAll, resOf, reifyR, reify, reifyP, clo, cloL, cloLL, cloEnv, loadBox, storeBox, okPut, buildElems, buildCells, int_beq, int_bne, hsn, hsn2, ws, ws', h3, e0, e1, e2, e6, e7, wm, hmn, hmn2, take_q0]
      · intro c c1
        simp only [hss] at c1 ⊢
        by_cases hc : c < a
        · have := dvd_gap (by omega) c1 hd hc
          rw [Nat.min_eq_left (by omega)]
          exact hb1 c c1 this
        · by_cases hc2 : c = a
          · subst hc2
            have k1 := hb2 c hd1 (Nat.le_refl _)
            rw [Nat.min_eq_right (by omega)] at k1 ⊢
            exact k1
          · have := dvd_gap (by omega) hd c1 (by omega)
            intro p r c3 c4 c5; omega
  · right
    have hsn2 : ¬ (s0 : Int) < (n : Int) := by omega
    refine out_of (.exit 2) [(0, .arr q v 0 n), (1, I n), (2, .func 42 [] []), (6, I s0), (30, .bool false)] (H.set q (.arr v (tab g n))) ?_ (by simp) ?_
    · simp [↓ev_loop, ev, evOps, evOp, wants, req, reqCall, inOf, evOpd, ofConst, ofCell, hands, Ann.mem, Env.get, Env.set, gives, handT, Op.operands, Call.operands, meet, putD, params, AV.strip, keepAt, lookN, Env.keep, binAV, intBinAV, headId, tidy, flagOp, nilConst, List.filterMap_cons, List.filterMap_nil, outOf, resAll, resOf, reifyR, reify, reifyP, clo, cloL, cloLL, cloEnv, loadBox, storeBox, okPut, buildElems, buildCells, int_beq, int_bne, hsn, hsn2]
    · have := h2 0 ⟨0, by simp⟩
      rw [Nat.zero_add, Nat.min_eq_right (by omega)] at this
      exact ⟨g, rfl, rfl, this, hm⟩
theorem stable57 (f : Nat → Act) (q v n : Nat) (hn : n ≤ 100000) (bs : List Nat) (H : List AO) (hq : q < H.length) :
    ∃ g, callD X 57 [.arr q v 0 n, I n, .func 42 [] []] bs (H.set q (.arr v (tab f n))) = some (.tup [], H.set q (.arr v (tab g n))) ∧ SW g 0 n ∧ Mix 0 n n f g := by
  rw [callD_eq]
  simp only [Xprim]
  unfold runBody
  simp only [XP, Try.func57, Xan57, Xok57]
  obtain ⟨c0, hc0⟩ : ∃ c, (loops (Try.f57.body.getD .skip))[0]? = some c := ⟨_, rfl⟩
  obtain ⟨c1, hc1⟩ : ∃ c, (loops (Try.f57.body.getD .skip))[1]? = some c := ⟨_, rfl⟩
  obtain ⟨c2, hc2⟩ : ∃ c, (loops (Try.f57.body.getD .skip))[2]? = some c := ⟨_, rfl⟩
  have hd0 := hc0
  simp only [Try.f57, loops, List.cons_append, List.nil_append, List.append_nil, List.getElem?_cons_zero, List.getElem?_cons_succ, Option.getD_some, Option.some.injEq] at hd0
  have hd1 := hc1
  simp only [Try.f57, loops, List.cons_append, List.nil_append, List.append_nil, List.getElem?_cons_zero, List.getElem?_cons_succ, Option.getD_some, Option.some.injEq] at hd1
  have hd2 := hc2
  simp only [Try.f57, loops, List.cons_append, List.nil_append, List.append_nil, List.getElem?_cons_zero, List.getElem?_cons_succ, Option.getD_some, Option.some.injEq] at hd2
  simp only [Try.f57]
  (try rw [hd0])
  (try rw [hd1])
  (try rw [hd2])
  obtain ⟨x, e', H', h3, a, g1, rfl, rfl, e0, e1, e2, e6, e7, hd, han, hna, hb1, hm1⟩ := lp57_0 f q v n (H.length :: bs) H c0 hc0 hq hn
  obtain ⟨g2, h69, hs2, hm2⟩ := ins69 g1 q v a n n hn han (Nat.le_refl _) (H.length :: bs) H hq
  have hbs : BS g2 20 n := by
    intro c c1
    by_cases hc : c < a
    · have := dvd_gap (by omega) c1 hd hc
      rw [Nat.min_eq_left (by omega)]
      exact SW_out hm2 (hb1 c c1 this) (.inl this)
    · by_cases hc2 : c = a
      · subst hc2; rw [Nat.min_eq_right (by omega)]; exact hs2
      · have := dvd_gap (by omega) hd c1 (by omega)
        intro p r c3 c4 c5; omega
  obtain ⟨x, e'', H', h4, g3, rfl, rfl, hs3, hm3⟩ := lp57_1 g2 q v n (H.length :: bs) H c1 hc1 c2 hc2 hq hn hbs
  simp only [S, List.map_nil, Int.ofNat_eq_natCast, Int.natCast_zero, List.length_append, List.length_cons, List.length_nil, Nat.zero_add, Nat.reduceAdd] at h3
  simp only [S, List.map_nil, Int.ofNat_eq_natCast, Int.natCast_zero, List.length_append, List.length_cons, List.length_nil, Nat.zero_add, Nat.reduceAdd] at h4
  simp at h3 h4
  refine ⟨g3, ?_, hs3, (hm1.trans (hm2.mono (Nat.zero_le _) (Nat.le_refl _))).trans hm3⟩
  simp [↓ev_loop, ev, evOps, evOp, wants, req, reqCall, inOf, evOpd, ofConst, ofCell, hands, Ann.mem, Env.get, Env.set, gives, handT, Op.operands, Call.operands, meet, putD, params, AV.strip, keepAt, lookN, Env.keep, binAV, intBinAV, headId, tidy, flagOp, nilConst, List.filterMap_cons, List.filterMap_nil, outOf, resAll, resOf, reifyR, reify, reifyP, clo, cloL, cloLL, cloEnv, loadBox, storeBox, okPut, buildElems, buildCells, int_beq, int_bne, h3, e0, e1, e2, e6, e7, h69, h4, take_q0]
end Go.Proofs.Ytlpilgnjlnepeaa.T
