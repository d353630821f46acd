/-
  The order of the items; acts that occur twice; a further gazette; the laws' calls.
-/
import Derived.Test.YtlpilgnjlnepeaaD1
set_option linter.all false
namespace Go.Proofs.Ytlpilgnjlnepeaa.T
open Go.VM Go.Proofs
set_option linter.unusedSimpArgs false
set_option maxHeartbeats 16000000
set_option maxRecDepth 10000

/-! the items stand in strict legal order -/
def ltE (a b : EI) : Prop := a.day < b.day ∨ (a.day = b.day ∧ (a.act < b.act ∨ (a.act = b.act ∧ a.item < b.item)))
theorem cz_vals (x y : Int) : (x < y ∧ cz x y = -1) ∨ (y < x ∧ cz x y = 1) ∨ (x = y ∧ cz x y = 0) := by unfold cz; split <;> (try split) <;> omega
theorem or_neg (a b : EI) : orZ [cz a.day b.day, cz a.act b.act, cz a.item b.item] < 0 ↔ ltE a b := by
  have h1 := cz_vals a.day b.day
  have h2 := cz_vals a.act b.act
  have h3 := cz_vals a.item b.item
  unfold ltE orZ orZ orZ orZ
  split <;> (try split) <;> (try split) <;> omega
theorem eFrom_props (a : Act) (xs : List Item) : ∀ i : Nat, (eFrom a i xs).Pairwise (fun x y => x.item < y.item) ∧ ∀ d ∈ eFrom a i xs, d.act = a.number ∧ d.day = a.day ∧ (i : Int) ≤ d.item := by
  induction xs with
  | nil => intro i; exact ⟨List.Pairwise.nil, fun d h => by cases h⟩
  | cons x r ih =>
    intro i
    obtain ⟨h1, h2⟩ := ih (i + 1)
    refine ⟨List.pairwise_cons.2 ⟨fun d hd => ?_, h1⟩, fun d hd => ?_⟩
    · have := (h2 d hd).2.2; simp only; omega
    · rcases List.mem_cons.1 hd with rfl | hd
      · exact ⟨rfl, rfl, Int.le_refl _⟩
      · have := h2 d hd; exact ⟨this.1, this.2.1, by omega⟩
theorem acts_pw (row : List Act) : (refActs row).Pairwise (fun a b => a.day < b.day ∨ (a.day = b.day ∧ a.number < b.number)) := by
  have h1 := ref_sorted row
  have h2 : (refActs row).Pairwise (fun a b => a.number ≠ b.number) := (List.Perm.pairwise_iff (fun h => Ne.symm h) (ref_perm row)).2 (firsts_pw row []).1
  refine List.Pairwise.imp₂ ?_ h1 h2
  intro a b h3 h4; unfold leA at h3; omega
theorem items_pw (l : List Gazette) : (itemsOf l).Pairwise ltE := by
  unfold itemsOf deedsOf
  rw [List.pairwise_flatMap]
  constructor
  · intro a ha
    rw [List.pairwise_map]
    obtain ⟨h1, h2⟩ := eFrom_props a a.items 0
    refine List.Pairwise.imp_of_mem ?_ h1
    intro x y hx hy hlt
    obtain ⟨x1, x2, _⟩ := h2 x hx
    obtain ⟨y1, y2, _⟩ := h2 y hy
    unfold ltE fxE; simp [x1, x2, y1, y2, hlt]
  · refine List.Pairwise.imp ?_ (acts_pw (rowOf l))
    intro a b hab x hx y hy
    obtain ⟨x', hx', rfl⟩ := List.mem_map.1 hx
    obtain ⟨y', hy', rfl⟩ := List.mem_map.1 hy
    obtain ⟨x1, x2, _⟩ := (eFrom_props a a.items 0).2 x' hx'
    obtain ⟨y1, y2, _⟩ := (eFrom_props b b.items 0).2 y' hy'
    unfold ltE fxE; simp only [x1, x2, y1, y2]; omega
theorem pw_or {α : Type} {R : α → α → Prop} {l : List α} (h : l.Pairwise R) : ∀ x ∈ l, ∀ y ∈ l, x = y ∨ R x y ∨ R y x := by
  induction l with
  | nil => intro x h; cases h
  | cons a r ih =>
    obtain ⟨h1, h2⟩ := List.pairwise_cons.1 h
    intro x hx y hy
    rcases List.mem_cons.1 hx with hx | hx
    · rcases List.mem_cons.1 hy with hy | hy
      · exact .inl (hx.trans hy.symm)
      · rw [hx]; exact .inr (.inl (h1 y hy))
    · rcases List.mem_cons.1 hy with hy | hy
      · rw [hy]; exact .inr (.inr (h1 x hx))
      · exact ih h2 x hx y hy
theorem item_act {l : List Gazette} {d : EI} (hd : d ∈ itemsOf l) : ∃ a ∈ actsOf l, d.act = a.number ∧ d.day = a.day ∧ ∃ e ∈ eItems a, d = fxE (actsOf l) e := by
  obtain ⟨a, ha, hd⟩ := List.mem_flatMap.1 hd
  obtain ⟨e, he, rfl⟩ := List.mem_map.1 hd
  obtain ⟨x1, x2, _⟩ := (eFrom_props a a.items 0).2 e he
  exact ⟨a, ha, x1, x2, e, he, rfl⟩
theorem acts_inj {l : List Gazette} {a b : Act} (ha : a ∈ actsOf l) (hb : b ∈ actsOf l) (h : a.number = b.number) : a = b :=
  pw_inj _ (firsts_pw (rowOf l) []).1 a ((ref_perm _).mem_iff.1 ha) b ((ref_perm _).mem_iff.1 hb) h
theorem item_inj {l : List Gazette} {x y : EI} (hx : x ∈ itemsOf l) (hy : y ∈ itemsOf l) (h1 : x.act = y.act) (h2 : x.item = y.item) : x = y := by
  obtain ⟨a, ha, a1, a2, _⟩ := item_act hx
  obtain ⟨b, hb, b1, b2, _⟩ := item_act hy
  have hab := acts_inj ha hb (by rw [← a1, ← b1]; exact h1)
  have hd : x.day = y.day := by rw [a2, b2, hab]
  rcases pw_or (items_pw l) x hx y hy with h | h | h
  · exact h
  · unfold ltE at h; omega
  · unfold ltE at h; omega
theorem find_self {l : List Gazette} {d : EI} (hd : d ∈ itemsOf l) : (itemsOf l).find? (isE d.act d.item) = some d := by
  cases hf : (itemsOf l).find? (isE d.act d.item) with
  | none =>
    have := List.find?_eq_none.1 hf d hd
    simp [isE] at this
  | some y =>
    have h1 := List.find?_some hf
    have h2 := List.mem_of_find?_eq_some hf
    simp only [isE, Bool.and_eq_true, decide_eq_true_eq] at h1
    rw [item_inj h2 hd h1.1 h1.2]

/-! since -/
theorem sinceN_spec (good : Nat → Bool) : ∀ (f k j : Nat), k ≤ j → j < k + f → good j = true → k ≤ sinceN good f k ∧ sinceN good f k ≤ j ∧ good (sinceN good f k) = true ∧ ∀ i, k ≤ i → i < sinceN good f k → good i = false := by
  intro f
  induction f with
  | zero => intro k j h1 h2; omega
  | succ f ih =>
    intro k j h1 h2 h3
    unfold sinceN
    by_cases hk : good k = true
    · rw [if_pos hk]; exact ⟨Nat.le_refl _, h1, hk, fun i h4 h5 => by omega⟩
    · rw [if_neg hk]
      have hkj : k ≠ j := fun h => hk (h ▸ h3)
      obtain ⟨q1, q2, q3, q4⟩ := ih (k + 1) j (by omega) (by omega) h3
      refine ⟨by omega, q2, q3, fun i h4 h5 => ?_⟩
      by_cases hi : i = k
      · rw [hi]; exact Bool.eq_false_iff.2 hk
      · exact q4 i (by omega) h5

theorem lp8 (l : List Gazette) (n k : Int) (q z : Nat) (d : EI) (bs : List Nat) (H : List AO) (c0 : Code) (hc0 : (loops (Try.f8.body.getD .skip))[0]? = some c0) (hl : l.length ≤ 1000) (hq : H[q]? = some (.box (cEI d))) (hz : z ≤ l.length) (hfit : Fit l) (hgd : ∀ i, i ≤ z → goodAt n k (preF l) d i = decide (i = z)) :
    ∃ x e' H', lev Try.prog an8 (callD X) c0 bs ((fun s : Nat => [(0, S cGazette l), (1, I n), (2, I k), (7, .ptr q 0), (9, I z), (44, I ((z + 1 : Nat))), (45, I s)]) (0)) ((fun s : Nat => H) (0)) = some (x, e', H') ∧ (x = .exit 0 ∧ H' = H) := by
  simp only [Try.f8, loops, List.cons_append, List.nil_append, List.append_nil, List.getElem?_cons_zero, List.getElem?_cons_succ, Option.getD_some, Option.some.injEq] at hc0
  refine lev_inv (σ := Nat) (fun s => [(0, S cGazette l), (1, I n), (2, I k), (7, .ptr q 0), (9, I z), (44, I ((z + 1 : Nat))), (45, I s)]) (fun s => H) (fun s => s ≤ z + 1) (fun s => z + 1 - s) (fun x e' H' => x = .exit 0 ∧ H' = H) (0) ?_ ?_ ?_ ?_ ?_
  · simp
  · intro s hs; simp
  · intro s hs; simp [cloEnv, clo, S, lt_of_get hq]
  · intro s hs; subst hc0; simp [keepAt, headId, lookN, Env.keep, Env.get]
  intro s hs
  subst hc0
  have hp := lt_of_get hq
  obtain ⟨z1, hz1⟩ : ∃ z1, z1 = z + 1 := ⟨_, rfl⟩
  rw [← hz1]
  by_cases hlt : s < z1
  · left
    have h0 : (s : Int) < (z1 : Int) := by omega
    have hw := wrap_s s (by omega)
    have hf := fun bs H => (hfit.take s).c15 n k bs H
    have hg := hgd s (by omega)
    unfold goodAt at hg
    rw [show preF l s = itemsOf (l.take s) from rfl] at hg
    simp only [S, List.map_take] at hf
    have hle : s ≤ l.length := by omega
    refine ⟨s + 1, ?_, by omega, by omega⟩
    cases hfi : (itemsOf (l.take s)).find? (isE n k) with
    | none =>
      rw [hfi] at hg
      have hsz : ¬ s = z := by intro h; rw [h] at hg; simp at hg
      have hsz2 : ¬ (s : Int) = (z : Int) := by omega
      simp [↓ev_loop, ev, evOps, evOp, wants, req, reqCall, inOf, evOpd, ofConst, ofCell, hands, Ann.mem, Env.get, Env.set, gives, handT, Op.operands, Call.operands, meet, putD, params, AV.strip, keepAt, lookN, Env.keep, binAV, intBinAV, headId, tidy, flagOp, nilConst, List.filterMap_cons, List.filterMap_nil, outOf, resAll, resOf, reifyR, reify, reifyP, clo, cloL, cloLL, cloEnv, loadBox, storeBox, okPut, buildElems, buildCells, int_beq, int_bne, h0, hlt, hw, hf, hfi, found, S, highOf, lowOf, hle, hp, hsz, hsz2]
    | some y =>
      rw [hfi] at hg
      have h17 := fun bs H => eq17 y d ((hfit.take s).items_wf y (List.mem_of_find?_eq_some hfi)) bs H
      simp only at hg
      have hq2 : (H ++ [AO.box (cEI y)])[q]? = some (.box (cEI d)) := by rw [List.getElem?_append_left hp]; exact hq
      by_cases hsz : s = z
      · rw [decide_eq_true hsz] at hg
        subst hsz
        simp [↓ev_loop, ev, evOps, evOp, wants, req, reqCall, inOf, evOpd, ofConst, ofCell, hands, Ann.mem, Env.get, Env.set, gives, handT, Op.operands, Call.operands, meet, putD, params, AV.strip, keepAt, lookN, Env.keep, binAV, intBinAV, headId, tidy, flagOp, nilConst, List.filterMap_cons, List.filterMap_nil, outOf, resAll, resOf, reifyR, reify, reifyP, clo, cloL, cloLL, cloEnv, loadBox, storeBox, okPut, buildElems, buildCells, int_beq, int_bne, h0, hlt, hw, hf, hfi, h17, hg, found, S, highOf, lowOf, hle, hp, hq2]
      · have hsz2 : ¬ (s : Int) = (z : Int) := by omega
        rw [decide_eq_false hsz] at hg
        simp [↓ev_loop, ev, evOps, evOp, wants, req, reqCall, inOf, evOpd, ofConst, ofCell, hands, Ann.mem, Env.get, Env.set, gives, handT, Op.operands, Call.operands, meet, putD, params, AV.strip, keepAt, lookN, Env.keep, binAV, intBinAV, headId, tidy, flagOp, nilConst, List.filterMap_cons, List.filterMap_nil, outOf, resAll, resOf, reifyR, reify, reifyP, clo, cloL, cloLL, cloEnv, loadBox, storeBox, okPut, buildElems, buildCells, int_beq, int_bne, h0, hlt, hw, hf, hfi, h17, hg, found, S, highOf, lowOf, hle, hp, hq2, hsz, hsz2]
  · right
    have h0 : ¬ (s : Int) < (z1 : Int) := by omega
    simp [↓ev_loop, ev, evOps, evOp, wants, req, reqCall, inOf, evOpd, ofConst, ofCell, hands, Ann.mem, Env.get, Env.set, gives, handT, Op.operands, Call.operands, meet, putD, params, AV.strip, keepAt, lookN, Env.keep, binAV, intBinAV, headId, tidy, flagOp, nilConst, List.filterMap_cons, List.filterMap_nil, outOf, resAll, resOf, reifyR, reify, reifyP, clo, cloL, cloLL, cloEnv, loadBox, storeBox, okPut, buildElems, buildCells, int_beq, int_bne, h0, hlt, S]
theorem preF0 (l : List Gazette) : preF l 0 = [] := rfl
theorem law8 (l : List Gazette) (act item : Int) (hl : okG l) (bs : List Nat) (H : List AO) : callD X 8 [S cGazette l, I act, I item] bs H = some (.bool true, H) := by
  obtain ⟨r, h1, h2⟩ := few_fit hl (H.length :: bs) H
  simp only [S] at h1
  rw [callD_eq]
  simp only [Xprim]
  unfold runBody
  simp only [XP, Try.func8, Xan8, Xok8]
  obtain ⟨c0, hc0⟩ : ∃ c, (loops (Try.f8.body.getD .skip))[0]? = some c := ⟨_, rfl⟩
  have hd0 := hc0
  simp only [Try.f8, loops, List.cons_append, List.nil_append, List.append_nil, List.getElem?_cons_zero, List.getElem?_cons_succ, Option.getD_some, Option.some.injEq] at hd0
  simp only [Try.f8]
  (try rw [hd0])
  cases r
  · simp [↓ev_loop, ev, evOps, evOp, wants, req, reqCall, inOf, evOpd, ofConst, ofCell, hands, Ann.mem, Env.get, Env.set, gives, handT, Op.operands, Call.operands, meet, putD, params, AV.strip, keepAt, lookN, Env.keep, binAV, intBinAV, headId, tidy, flagOp, nilConst, List.filterMap_cons, List.filterMap_nil, outOf, resAll, resOf, reifyR, reify, reifyP, clo, cloL, cloLL, cloEnv, loadBox, storeBox, okPut, buildElems, buildCells, int_beq, int_bne, S, h1, awake11]
  · obtain ⟨hf, h8⟩ := h2 rfl
    have h15 := fun bs H => hf.c15 act item bs H
    have h18 := fun bs H => hf.c18 act item bs H
    simp only [S, found] at h15 h18
    cases hfi : (itemsOf l).find? (isE act item) with
    | none =>
      have hs : sinceF act item (preF l) l.length = 0 := by
        unfold sinceF; rw [show preF l l.length = itemsOf l by unfold preF; rw [List.take_length], hfi]
      simp [↓ev_loop, ev, evOps, evOp, wants, req, reqCall, inOf, evOpd, ofConst, ofCell, hands, Ann.mem, Env.get, Env.set, gives, handT, Op.operands, Call.operands, meet, putD, params, AV.strip, keepAt, lookN, Env.keep, binAV, intBinAV, headId, tidy, flagOp, nilConst, List.filterMap_cons, List.filterMap_nil, outOf, resAll, resOf, reifyR, reify, reifyP, clo, cloL, cloLL, cloEnv, loadBox, storeBox, okPut, buildElems, buildCells, int_beq, int_bne, S, h1, awake11, h15, h18, hfi, hs]
    | some d =>
      have hpl : preF l l.length = itemsOf l := by unfold preF; rw [List.take_length]
      have hs : sinceF act item (preF l) l.length = sinceN (goodAt act item (preF l) d) l.length 1 := by
        unfold sinceF; rw [hpl, hfi]
      have hgl : goodAt act item (preF l) d l.length = true := by unfold goodAt; rw [hpl, hfi]; simp
      have hpos : 1 ≤ l.length := by
        rcases Nat.eq_zero_or_pos l.length with h | h
        · rw [h, preF0] at hpl; rw [← hpl] at hfi; simp at hfi
        · exact h
      obtain ⟨q1, q2, q3, q4⟩ := sinceN_spec (goodAt act item (preF l) d) l.length 1 l.length hpos (by omega) hgl
      rw [← hs] at q1 q2 q3 q4
      generalize sinceF act item (preF l) l.length = z at *
      have hgd : ∀ i, i ≤ z → goodAt act item (preF l) d i = decide (i = z) := by
        intro i hi
        by_cases h : i = z
        · rw [h, q3]; simp
        · by_cases h0 : i = 0
          · rw [h0]; unfold goodAt; rw [preF0]; simp; omega
          · rw [q4 i (by omega) (by omega)]; simp [h]
      obtain ⟨x, e', H', h3, rfl, rfl⟩ := lp8 l act item H.length z d (H.length :: bs) (H ++ [.box (cEI d)]) c0 hc0 hf.len (by simp) q2 hf hgd
      simp only [S, List.map_nil, Int.ofNat_eq_natCast, Int.natCast_zero, List.length_append, List.length_cons, List.length_nil, Nat.zero_add, Nat.reduceAdd] at h3
      simp at h3
      have z1 : ¬ (z : Int) < 1 := by omega
      have z2 : ¬ (l.length : Int) < (z : Int) := by omega
      have z3 : ¬ l.length < z := by omega
      have z4 : ¬ z = 0 := by omega
      have hw := wrap_s z (by omega)
      simp at hw
      simp [↓ev_loop, ev, evOps, evOp, wants, req, reqCall, inOf, evOpd, ofConst, ofCell, hands, Ann.mem, Env.get, Env.set, gives, handT, Op.operands, Call.operands, meet, putD, params, AV.strip, keepAt, lookN, Env.keep, binAV, intBinAV, headId, tidy, flagOp, nilConst, List.filterMap_cons, List.filterMap_nil, outOf, resAll, resOf, reifyR, reify, reifyP, clo, cloL, cloLL, cloEnv, loadBox, storeBox, okPut, buildElems, buildCells, int_beq, int_bne, S, h1, awake11, h15, h18, hfi, h3, z1, z2, z3, z4, hw]
end Go.Proofs.Ytlpilgnjlnepeaa.T
namespace Go.Proofs.Ytlpilgnjlnepeaa.T
open Go.VM Go.Proofs
set_option linter.unusedSimpArgs false
set_option maxHeartbeats 16000000
set_option maxRecDepth 10000

theorem lp5_0 (l : List Gazette) (es : List EI) (acts : List Act) (bs : List Nat) (H : List AO) (c0 : Code) (hc0 : (loops (Try.f5.body.getD .skip))[0]? = some c0) (hl : acts.length ≤ 10000) (hn : nItems acts ≤ 10000) :
    ∃ x e' H', lev Try.prog an5 (callD X) c0 bs ((fun s : Nat × Nat => [(0, S cGazette l), (3, .slc true (es.map cEI)), (4, I s.2), (17, S cAct acts), (18, I acts.length), (19, I s.1)]) ((0, 0))) ((fun s : Nat × Nat => H) ((0, 0))) = some (x, e', H') ∧ (H' = H ∧ x = .exit 0 ∧ e'.get 0 = S cGazette l ∧ e'.get 3 = .slc true (es.map cEI) ∧ e'.get 4 = I (nItems acts)) := by
  simp only [Try.f5, loops, List.cons_append, List.nil_append, List.append_nil, List.getElem?_cons_zero, List.getElem?_cons_succ, Option.getD_some, Option.some.injEq] at hc0
  refine lev_inv (σ := Nat × Nat) (fun s => [(0, S cGazette l), (3, .slc true (es.map cEI)), (4, I s.2), (17, S cAct acts), (18, I acts.length), (19, I s.1)]) (fun s => H) (fun s => s.1 ≤ acts.length ∧ s.2 = nItems (acts.take s.1)) (fun s => acts.length - s.1) (fun x e' H' => H' = H ∧ x = .exit 0 ∧ e'.get 0 = S cGazette l ∧ e'.get 3 = .slc true (es.map cEI) ∧ e'.get 4 = I (nItems acts)) ((0, 0)) ?_ ?_ ?_ ?_ ?_
  · exact ⟨Nat.zero_le _, by simp [nItems]⟩
  · intro s hs; simp
  · intro s hs; simp [cloEnv, clo, S]
  · intro s hs; subst hc0; simp [keepAt, headId, lookN, Env.keep, Env.get]
  intro s hs
  subst hc0
  obtain ⟨s, w⟩ := s
  obtain ⟨hs, hw1⟩ := hs
  simp only at hs hw1 ⊢
  rcases Nat.lt_or_ge s acts.length with hlt | hge
  · left
    have h0 : (s : Int) < (acts.length : Int) := by omega
    have hw := wrap_s s (by omega)
    have hg : acts[s]? = some acts[s] := by simp [hlt]
    have ht : nItems (acts.take (s + 1)) = w + acts[s].items.length := by rw [take_s _ s hlt, nItems_app, nItems_one, hw1]
    have hle : nItems (acts.take (s + 1)) ≤ nItems acts := nItems_sub (List.take_sublist _ _)
    generalize acts[s] = a at hg ht
    obtain ⟨W, hW⟩ : ∃ W, W = w + a.items.length := ⟨_, rfl⟩
    have hw3 : IntKind.i64.wrap ((w : Int) + (a.items.length : Int)) = (W : Int) := wrap_n _ _ (by omega) (by omega)
    refine ⟨(s + 1, W), ?_, ⟨hlt, by simp only [ht]; exact hW⟩, by simp only; omega⟩
    simp [↓ev_loop, ev, evOps, evOp, wants, req, reqCall, inOf, evOpd, ofConst, ofCell, hands, Ann.mem, Env.get, Env.set, gives, handT, Op.operands, Call.operands, meet, putD, params, AV.strip, keepAt, lookN, Env.keep, binAV, intBinAV, headId, tidy, flagOp, nilConst, List.filterMap_cons, List.filterMap_nil, outOf, resAll, resOf, reifyR, reify, reifyP, clo, cloL, cloLL, cloEnv, loadBox, storeBox, okPut, buildElems, buildCells, int_beq, int_bne, h0, hw, hw3, hg, S]
  · right
    have h0 : ¬ (s : Int) < (acts.length : Int) := by omega
    rw [List.take_of_length_le hge] at hw1
    simp [↓ev_loop, ev, evOps, evOp, wants, req, reqCall, inOf, evOpd, ofConst, ofCell, hands, Ann.mem, Env.get, Env.set, gives, handT, Op.operands, Call.operands, meet, putD, params, AV.strip, keepAt, lookN, Env.keep, binAV, intBinAV, headId, tidy, flagOp, nilConst, List.filterMap_cons, List.filterMap_nil, outOf, resAll, resOf, reifyR, reify, reifyP, clo, cloL, cloLL, cloEnv, loadBox, storeBox, okPut, buildElems, buildCells, int_beq, int_bne, h0, S, hw1]

theorem lp5_1 (l : List Gazette) (n : Nat) (bs : List Nat) (H : List AO) (c1 : Code) (hc1 : (loops (Try.f5.body.getD .skip))[1]? = some c1) (hfit : Fit l) :
    ∃ x e' H', lev Try.prog an5 (callD X) c1 bs ((fun s : Nat => [(0, S cGazette l), (3, .slc true ((itemsOf l).map cEI)), (4, I n), (30, I (itemsOf l).length), (31, I s)]) (0)) ((fun s : Nat => H) (0)) = some (x, e', H') ∧ (H' = H ∧ x = .exit 2 ∧ e'.get 3 = .slc true ((itemsOf l).map cEI) ∧ e'.get 4 = I n) := by
  simp only [Try.f5, loops, List.cons_append, List.nil_append, List.append_nil, List.getElem?_cons_zero, List.getElem?_cons_succ, Option.getD_some, Option.some.injEq] at hc1
  refine lev_inv (σ := Nat) (fun s => [(0, S cGazette l), (3, .slc true ((itemsOf l).map cEI)), (4, I n), (30, I (itemsOf l).length), (31, I s)]) (fun s => H) (fun s => s ≤ (itemsOf l).length) (fun s => (itemsOf l).length - s) (fun x e' H' => H' = H ∧ x = .exit 2 ∧ e'.get 3 = .slc true ((itemsOf l).map cEI) ∧ e'.get 4 = I n) (0) ?_ ?_ ?_ ?_ ?_
  · simp
  · intro s hs; simp
  · intro s hs; simp [cloEnv, clo, S]
  · intro s hs; subst hc1; simp [keepAt, headId, lookN, Env.keep, Env.get]
  intro s hs
  subst hc1
  rcases Nat.lt_or_ge s (itemsOf l).length with hlt | hge
  · left
    have hln := hfit.items_len
    have h0 : (s : Int) < ((itemsOf l).length : Int) := by omega
    have hw := wrap_s s (by omega)
    have hg : (itemsOf l)[s]? = some (itemsOf l)[s] := by simp [hlt]
    have hmem : (itemsOf l)[s] ∈ itemsOf l := List.getElem_mem hlt
    have hfs := find_self hmem
    have h17 := fun bs H => eq17 (itemsOf l)[s] (itemsOf l)[s] (hfit.items_wf _ hmem) bs H
    have hpw := items_pw l
    refine ⟨s + 1, ?_, hlt, by omega⟩
    by_cases hs0 : s = 0
    · subst hs0
      cases hes : itemsOf l with
      | nil => rw [hes] at hlt; simp at hlt
      | cons d r =>
        have hm : d ∈ itemsOf l := by rw [hes]; exact List.mem_cons_self
        have hfs2 := find_self hm
        have h17' := fun bs H => eq17 d d (hfit.items_wf _ hm) bs H
        have h15 := fun bs H => hfit.c15 d.act d.item bs H
        simp only [S, found, hfs2] at h15
        have hw1 : IntKind.i64.wrap 1 = 1 := wrap_i64 _ (by omega) (by omega)
        have hp1 : (0 : Int) < (r.length : Int) + 1 := by omega
        simp (config := { maxSteps := 1000000 }) [↓ev_loop, ev, evOps, evOp, wants, req, reqCall, inOf, evOpd, ofConst, ofCell, hands, Ann.mem, Env.get, Env.set, gives, handT, Op.operands, Call.operands, meet, putD, params, AV.strip, keepAt, lookN, Env.keep, binAV, intBinAV, headId, tidy, flagOp, nilConst, List.filterMap_cons, List.filterMap_nil, outOf, resAll, resOf, reifyR, reify, reifyP, clo, cloL, cloLL, cloEnv, loadBox, storeBox, okPut, buildElems, buildCells, int_beq, int_bne, evDraw, evOpsD, evOpD, meetD, numbered, newsOf, newsIn, footsOk, apartF, clash, prec, Region.binds, hes, hp1, hw1, h15, h17', S]
    · obtain ⟨y, hy⟩ : ∃ y, y = s - 1 := ⟨_, rfl⟩
      have hly : y < (itemsOf l).length := by omega
      have hgy : (itemsOf l)[y]? = some (itemsOf l)[y] := by simp [hly]
      have hlt2 : ltE (itemsOf l)[y] (itemsOf l)[s] := (List.pairwise_iff_getElem.1 hpw) y s hly hlt (by omega)
      have hw2 : IntKind.i64.wrap ((s : Int) - 1) = (y : Int) := wrap_n _ _ (by omega) (by omega)
      have hs1 : 0 < s := by omega
      generalize (itemsOf l)[s] = d at *
      generalize (itemsOf l)[y] = e at *
      have h23 := fun bs H => cmp23 e d bs H
      have hneg := (or_neg e d).2 hlt2
      generalize orZ [cz e.day d.day, cz e.act d.act, cz e.item d.item] = z at *
      have hz : ¬ 0 ≤ z := by omega
      have h15 := fun bs H => hfit.c15 d.act d.item bs H
      simp only [S, found, hfs] at h15
      simp (config := { maxSteps := 1000000 }) [↓ev_loop, ev, evOps, evOp, wants, req, reqCall, inOf, evOpd, ofConst, ofCell, hands, Ann.mem, Env.get, Env.set, gives, handT, Op.operands, Call.operands, meet, putD, params, AV.strip, keepAt, lookN, Env.keep, binAV, intBinAV, headId, tidy, flagOp, nilConst, List.filterMap_cons, List.filterMap_nil, outOf, resAll, resOf, reifyR, reify, reifyP, clo, cloL, cloLL, cloEnv, loadBox, storeBox, okPut, buildElems, buildCells, int_beq, int_bne, evDraw, evOpsD, evOpD, meetD, numbered, newsOf, newsIn, footsOk, apartF, clash, prec, Region.binds, h0, hw, hw2, hg, hgy, h15, h17, h23, hz, hs1, hs0, S]
  · right
    have h0 : ¬ (s : Int) < ((itemsOf l).length : Int) := by omega
    simp [↓ev_loop, ev, evOps, evOp, wants, req, reqCall, inOf, evOpd, ofConst, ofCell, hands, Ann.mem, Env.get, Env.set, gives, handT, Op.operands, Call.operands, meet, putD, params, AV.strip, keepAt, lookN, Env.keep, binAV, intBinAV, headId, tidy, flagOp, nilConst, List.filterMap_cons, List.filterMap_nil, outOf, resAll, resOf, reifyR, reify, reifyP, clo, cloL, cloLL, cloEnv, loadBox, storeBox, okPut, buildElems, buildCells, int_beq, int_bne, h0, S]
theorem law5 (l : List Gazette) (hl : okG l) (bs : List Nat) (H : List AO) : callD X 5 [S cGazette l] bs H = some (.bool true, H) := by
  obtain ⟨r, h1, h2⟩ := few_fit hl (H.length :: bs) H
  simp only [S] at h1
  rw [callD_eq]
  simp only [Xprim]
  unfold runBody
  simp only [XP, Try.func5, Xan5, Xok5]
  obtain ⟨c0, hc0⟩ : ∃ c, (loops (Try.f5.body.getD .skip))[0]? = some c := ⟨_, rfl⟩
  obtain ⟨c1, hc1⟩ : ∃ c, (loops (Try.f5.body.getD .skip))[1]? = some c := ⟨_, rfl⟩
  have hd0 := hc0
  simp only [Try.f5, loops, List.cons_append, List.nil_append, List.append_nil, List.getElem?_cons_zero, List.getElem?_cons_succ, Option.getD_some, Option.some.injEq] at hd0
  have hd1 := hc1
  simp only [Try.f5, loops, List.cons_append, List.nil_append, List.append_nil, List.getElem?_cons_zero, List.getElem?_cons_succ, Option.getD_some, Option.some.injEq] at hd1
  simp only [Try.f5]
  (try rw [hd0])
  (try rw [hd1])
  cases r
  · simp [↓ev_loop, ev, evOps, evOp, wants, req, reqCall, inOf, evOpd, ofConst, ofCell, hands, Ann.mem, Env.get, Env.set, gives, handT, Op.operands, Call.operands, meet, putD, params, AV.strip, keepAt, lookN, Env.keep, binAV, intBinAV, headId, tidy, flagOp, nilConst, List.filterMap_cons, List.filterMap_nil, outOf, resAll, resOf, reifyR, reify, reifyP, clo, cloL, cloLL, cloEnv, loadBox, storeBox, okPut, buildElems, buildCells, int_beq, int_bne, S, h1, awake11]
  · obtain ⟨hf, h8⟩ := h2 rfl
    have h13 := fun bs H => hf.c13 bs H
    have h22 := fun bs H => hf.c22 bs H
    simp only [S] at h13 h22
    have hn : nItems (actsOf l) ≤ 10000 := Nat.le_trans hf.acts_n hf.its
    have hlen : (itemsOf l).length = nItems (actsOf l) := deeds_len _
    obtain ⟨x, e', H', k1, rfl, rfl, g0, g3, g4⟩ := lp5_0 l (itemsOf l) (actsOf l) (H.length :: bs) H c0 hc0 hf.acts_len hn
    obtain ⟨x, e'', H'', k2, rfl, rfl, q3, q4⟩ := lp5_1 l (nItems (actsOf l)) (H'.length :: bs) H' c1 hc1 hf
    simp only [S, List.map_nil, Int.ofNat_eq_natCast, Int.natCast_zero, List.length_append, List.length_cons, List.length_nil, Nat.zero_add, Nat.reduceAdd] at k1
    simp only [S, List.map_nil, Int.ofNat_eq_natCast, Int.natCast_zero, List.length_append, List.length_cons, List.length_nil, Nat.zero_add, Nat.reduceAdd] at k2
    simp only [hlen] at k2
    simp [↓ev_loop, ev, evOps, evOp, wants, req, reqCall, inOf, evOpd, ofConst, ofCell, hands, Ann.mem, Env.get, Env.set, gives, handT, Op.operands, Call.operands, meet, putD, params, AV.strip, keepAt, lookN, Env.keep, binAV, intBinAV, headId, tidy, flagOp, nilConst, List.filterMap_cons, List.filterMap_nil, outOf, resAll, resOf, reifyR, reify, reifyP, clo, cloL, cloLL, cloEnv, loadBox, storeBox, okPut, buildElems, buildCells, int_beq, int_bne, S, h1, awake11, h13, h22, k1, g0, g3, g4, k2, q3, q4, hlen]
end Go.Proofs.Ytlpilgnjlnepeaa.T
namespace Go.Proofs.Ytlpilgnjlnepeaa.T
open Go.VM Go.Proofs
set_option linter.unusedSimpArgs false
set_option maxHeartbeats 16000000
set_option maxRecDepth 10000

/-! numbers that occur twice -/
def insN (out : List Int) (n : Int) : List Int :=
  match out.dropWhile (fun x => decide (x < n)) with
  | [] => out.takeWhile (fun x => decide (x < n)) ++ [n]
  | y :: r => if y = n then out else out.takeWhile (fun x => decide (x < n)) ++ n :: y :: r
def dupsOf (pre : List Act) : List Act → List Int
  | [] => []
  | a :: r => if occurs pre a = true then a.number :: dupsOf (pre ++ [a]) r else dupsOf (pre ++ [a]) r
def twiceOf (row : List Act) : List Int := (dupsOf [] row).foldl insN []
theorem dups_app (xs : List Act) (a : Act) : ∀ pre, dupsOf pre (xs ++ [a]) = dupsOf pre xs ++ (if occurs (pre ++ xs) a = true then [a.number] else []) := by
  induction xs with
  | nil => intro pre; simp [dupsOf]
  | cons x xs ih =>
    intro pre
    simp only [List.cons_append, dupsOf, ih, List.append_assoc, List.cons_append, List.nil_append]
    split <;> simp

theorem lp28_1 (row : List Act) (out : List Int) (a : Act) (i q ver : Nat) (bs : List Nat) (H : List AO) (c1 : Code) (hc1 : (loops (Try.f28.body.getD .skip))[1]? = some c1) (hq : H[q]? = some (.arr ver (out.map cInt))) (ha : row[i]? = some a) (hl : out.length ≤ 10000) :
    ∃ x e' H', lev Try.prog an28 (callD X) c1 bs ((fun s : Nat => [(3, .slc true (row.map cAct)), (4, .arr q ver 0 out.length), (5, I i), (6, I s)]) (0)) ((fun s : Nat => H) (0)) = some (x, e', H') ∧ (H' = H ∧ x = .exit 2 ∧ e'.get 3 = .slc true (row.map cAct) ∧ e'.get 4 = .arr q ver 0 out.length ∧ e'.get 5 = I i ∧ e'.get 6 = I (out.takeWhile (fun x => decide (x < a.number))).length) := by
  simp only [Try.f28, loops, List.cons_append, List.nil_append, List.append_nil, List.getElem?_cons_zero, List.getElem?_cons_succ, Option.getD_some, Option.some.injEq] at hc1
  refine lev_inv (σ := Nat) (fun s => [(3, .slc true (row.map cAct)), (4, .arr q ver 0 out.length), (5, I i), (6, I s)]) (fun s => H) (fun s => s ≤ out.length ∧ (out.takeWhile (fun x => decide (x < a.number))).length = s + ((out.drop s).takeWhile (fun x => decide (x < a.number))).length) (fun s => out.length - s) (fun x e' H' => H' = H ∧ x = .exit 2 ∧ e'.get 3 = .slc true (row.map cAct) ∧ e'.get 4 = .arr q ver 0 out.length ∧ e'.get 5 = I i ∧ e'.get 6 = I (out.takeWhile (fun x => decide (x < a.number))).length) (0) ?_ ?_ ?_ ?_ ?_
  · simp
  · intro s hs; simp
  · intro s hs; simp [cloEnv, clo, cloL, S, lt_of_get hq]
  · intro s hs; subst hc1; simp [keepAt, headId, lookN, Env.keep, Env.get]
  intro s hs
  subst hc1
  obtain ⟨hs, hi⟩ := hs
  have hp := lt_of_get hq
  rcases Nat.lt_or_ge s out.length with hlt | hge
  · have h0 : (s : Int) < (out.length : Int) := by omega
    have hw := wrap_s s (by omega)
    have hg : out[s]? = some out[s] := by simp [hlt]
    have hi3 : ((out.drop s).takeWhile (fun x => decide (x < a.number))).length = if out[s] < a.number then 1 + ((out.drop (s + 1)).takeWhile (fun x => decide (x < a.number))).length else 0 := by
      rw [List.drop_eq_getElem_cons hlt, List.takeWhile_cons]
      by_cases h : out[s] < a.number
      · simp only [h, decide_true, if_true, List.length_cons]; omega
      · simp only [h, decide_false, if_false, Bool.false_eq_true, List.length_nil]
    rw [hi3] at hi
    by_cases hv : out[s] < a.number
    · left
      refine ⟨s + 1, by simp [↓ev_loop, ev, evOps, evOp, wants, req, reqCall, inOf, evOpd, ofConst, ofCell, hands, Ann.mem, Env.get, Env.set, gives, handT, Op.operands, Call.operands, meet, putD, params, AV.strip, keepAt, lookN, Env.keep, binAV, intBinAV, headId, tidy, flagOp, nilConst, List.filterMap_cons, List.filterMap_nil, outOf, resAll, resOf, reifyR, reify, reifyP, clo, cloL, cloLL, cloEnv, loadBox, storeBox, okPut, buildElems, buildCells, int_beq, int_bne, evDraw, evOpsD, evOpD, meetD, numbered, newsOf, newsIn, footsOk, apartF, clash, prec, Region.binds, h0, hw, hg, hv, S, hq, lenArr, atArr, loadArr, ha, hlt], ⟨hlt, ?_⟩, by omega⟩
      rw [hi, if_pos hv]; omega
    · right
      have hi2 : (out.takeWhile (fun x => decide (x < a.number))).length = s := by rw [hi, if_neg hv]; rfl
      simp [↓ev_loop, ev, evOps, evOp, wants, req, reqCall, inOf, evOpd, ofConst, ofCell, hands, Ann.mem, Env.get, Env.set, gives, handT, Op.operands, Call.operands, meet, putD, params, AV.strip, keepAt, lookN, Env.keep, binAV, intBinAV, headId, tidy, flagOp, nilConst, List.filterMap_cons, List.filterMap_nil, outOf, resAll, resOf, reifyR, reify, reifyP, clo, cloL, cloLL, cloEnv, loadBox, storeBox, okPut, buildElems, buildCells, int_beq, int_bne, evDraw, evOpsD, evOpD, meetD, numbered, newsOf, newsIn, footsOk, apartF, clash, prec, Region.binds, h0, hw, hg, hv, S, hi2, hq, lenArr, atArr, loadArr, ha, hlt]
  · right
    have h0 : ¬ (s : Int) < (out.length : Int) := by omega
    have hi2 : (out.takeWhile (fun x => decide (x < a.number))).length = s := by rw [hi, List.drop_of_length_le hge]; simp
    simp [↓ev_loop, ev, evOps, evOp, wants, req, reqCall, inOf, evOpd, ofConst, ofCell, hands, Ann.mem, Env.get, Env.set, gives, handT, Op.operands, Call.operands, meet, putD, params, AV.strip, keepAt, lookN, Env.keep, binAV, intBinAV, headId, tidy, flagOp, nilConst, List.filterMap_cons, List.filterMap_nil, outOf, resAll, resOf, reifyR, reify, reifyP, clo, cloL, cloLL, cloEnv, loadBox, storeBox, okPut, buildElems, buildCells, int_beq, int_bne, evDraw, evOpsD, evOpD, meetD, numbered, newsOf, newsIn, footsOk, apartF, clash, prec, Region.binds, h0, S, hi2, hq, lenArr]
theorem insN_len (out : List Int) (n : Int) : (insN out n).length ≤ out.length + 1 := by
  have h : out.length = (out.takeWhile (fun x => decide (x < n))).length + (out.dropWhile (fun x => decide (x < n))).length := by
    conv => lhs; rw [← List.takeWhile_append_dropWhile (p := fun x => decide (x < n)) (l := out)]
    simp only [List.length_append]
  unfold insN
  split
  · rename_i hd; rw [hd] at h; simp only [List.length_append, List.length_cons, List.length_nil] at h ⊢; omega
  · rename_i y r hd
    rw [hd] at h
    split
    · omega
    · simp only [List.length_append, List.length_cons] at h ⊢; omega

theorem lp28_0 (row : List Act) (q : Nat) (bs : List Nat) (H : List AO) (c0 : Code) (hc0 : (loops (Try.f28.body.getD .skip))[0]? = some c0) (c1 : Code) (hc1 : (loops (Try.f28.body.getD .skip))[1]? = some c1) (hq : q < H.length) (hl : row.length ≤ 10000) :
    ∃ x e' H', lev Try.prog an28 (callD X) c0 bs ((fun s : Nat × Nat × List Int => [(3, .slc true (row.map cAct)), (4, .arr q s.2.1 0 s.2.2.length), (5, I s.1)]) ((0, 0, []))) ((fun s : Nat × Nat × List Int => H.set q (.arr s.2.1 (s.2.2.map cInt))) ((0, 0, []))) = some (x, e', H') ∧ (x = .exit 0 ∧ ∃ ver, H' = H.set q (.arr ver ((twiceOf row).map cInt)) ∧ e'.get 4 = .arr q ver 0 (twiceOf row).length) := by
  have hc1' := hc1
  simp only [Try.f28, loops, List.cons_append, List.nil_append, List.append_nil, List.getElem?_cons_zero, List.getElem?_cons_succ, Option.getD_some, Option.some.injEq] at hc0
  simp only [Try.f28, loops, List.cons_append, List.nil_append, List.append_nil, List.getElem?_cons_zero, List.getElem?_cons_succ, Option.getD_some, Option.some.injEq] at hc1
  refine lev_inv (σ := Nat × Nat × List Int) (fun s => [(3, .slc true (row.map cAct)), (4, .arr q s.2.1 0 s.2.2.length), (5, I s.1)]) (fun s => H.set q (.arr s.2.1 (s.2.2.map cInt))) (fun s => s.1 ≤ row.length ∧ s.2.2 = (dupsOf [] (row.take s.1)).foldl insN [] ∧ s.2.2.length ≤ s.1) (fun s => row.length - s.1) (fun x e' H' => x = .exit 0 ∧ ∃ ver, H' = H.set q (.arr ver ((twiceOf row).map cInt)) ∧ e'.get 4 = .arr q ver 0 (twiceOf row).length) ((0, 0, [])) ?_ ?_ ?_ ?_ ?_
  · exact ⟨Nat.zero_le _, rfl, Nat.le_refl _⟩
  · intro s hs; simp
  · intro s hs; simp [cloEnv, clo, cloL, S, hq]
  · intro s hs; subst hc0; simp [keepAt, headId, lookN, Env.keep, Env.get]
  intro s hs
  subst hc0
  (try rw [hc1])
  obtain ⟨s, ver, out⟩ := s
  obtain ⟨hs, ho, hln⟩ := hs
  simp only at hs ho hln ⊢
  rcases Nat.lt_or_ge s row.length with hlt | hge
  · left
    have h0 : (s : Int) < (row.length : Int) := by omega
    have hw := wrap_s s (by omega)
    have hg : row[s]? = some row[s] := by simp [hlt]
    have hf := is_first row s hlt
    have h46 := fun bs H => first46 row row[s].number (by omega) bs H
    have ht : dupsOf [] (row.take (s + 1)) = dupsOf [] (row.take s) ++ (if occurs (row.take s) row[s] = true then [row[s].number] else []) := by
      rw [take_s _ s hlt, dups_app]; rfl
    generalize row[s] = a at hg hf h46 ht
    simp only [S] at h46
    rw [show (row.take s).any (fun b => decide (b.number = a.number)) = occurs (row.take s) a from rfl] at hf
    generalize idxF (fun b => decide (b.number = a.number)) row 0 = z at hf h46
    by_cases hz : z = s
    · have hnf := hf.1 hz
      rw [if_neg hnf, List.append_nil] at ht
      refine ⟨(s + 1, ver, out), ?_, ⟨hlt, by rw [ht]; exact ho, by simp only; omega⟩, by simp only; omega⟩
      simp [↓ev_loop, ev, evOps, evOp, wants, req, reqCall, inOf, evOpd, ofConst, ofCell, hands, Ann.mem, Env.get, Env.set, gives, handT, Op.operands, Call.operands, meet, putD, params, AV.strip, keepAt, lookN, Env.keep, binAV, intBinAV, headId, tidy, flagOp, nilConst, List.filterMap_cons, List.filterMap_nil, outOf, resAll, resOf, reifyR, reify, reifyP, clo, cloL, cloLL, cloEnv, loadBox, storeBox, okPut, buildElems, buildCells, int_beq, int_bne, h0, hw, hg, h46, hz, S, hq, take_q0]
    · have hnf : occurs (row.take s) a = true := by
        by_cases h : occurs (row.take s) a = true
        · exact h
        · exact absurd (hf.2 h) hz
      rw [if_pos hnf] at ht
      have ht2 : (dupsOf [] (row.take (s + 1))).foldl insN [] = insN out a.number := by rw [ht, List.foldl_append, ← ho]; rfl
      obtain ⟨x, e', H', h1, rfl, rfl, g3, g4, g5, g6⟩ := lp28_1 row out a s q ver (H.length :: bs) (H.set q (.arr ver (out.map cInt))) c1 hc1' (get_q0 hq _) hg (by omega)
      simp only [S, List.map_nil, Int.ofNat_eq_natCast, Int.natCast_zero, List.length_append, List.length_cons, List.length_nil, Nat.zero_add, Nat.reduceAdd] at h1
      have hil := insN_len out a.number
      have hins : insN out a.number = match out.dropWhile (fun x => decide (x < a.number)) with
        | [] => out.takeWhile (fun x => decide (x < a.number)) ++ [a.number]
        | y :: r => if y = a.number then out else out.takeWhile (fun x => decide (x < a.number)) ++ a.number :: y :: r := rfl
      have hsplit : out = out.takeWhile (fun x => decide (x < a.number)) ++ out.dropWhile (fun x => decide (x < a.number)) := List.takeWhile_append_dropWhile.symm
      generalize hpre : out.takeWhile (fun x => decide (x < a.number)) = pre at *
      generalize hpost : out.dropWhile (fun x => decide (x < a.number)) = post at *
      clear hpre hpost
      subst hsplit
      rw [List.length_append] at hln
      have b1 : (pre.length + 1) * 8 ≤ 140737488355328 := by omega
      have b2 : pre.length + 1 ≤ 140737488355328 := by omega
      have b3 : (pre.length + 1 + post.length) * 8 ≤ 140737488355328 := by omega
      have b4 : pre.length + 1 + post.length ≤ 140737488355328 := by omega
      have b5 : post.length * 8 ≤ 140737488355328 := by omega
      have b6 : post.length ≤ 140737488355328 := by omega
      cases hpo : post with
      | nil =>
        subst hpo
        simp only at hins
        have hlen : (insN (pre ++ []) a.number).length = pre.length + 1 := by rw [hins]; simp
        refine ⟨(s + 1, ver + 1, insN (pre ++ []) a.number), ?_, ⟨hlt, ht2.symm, by simp only [hlen]; simp only [List.length_nil] at hln; omega⟩, by simp only; omega⟩
        rw [hins]
        simp only [List.length_nil, List.map_nil] at *
        cases hpr : pre with
        | nil =>
          subst hpr
          simp [cInt] at h1 g4 g6 b1 b2 b3 b4 b5 b6
          simp [↓ev_loop, ev, evOps, evOp, wants, req, reqCall, inOf, evOpd, ofConst, ofCell, hands, Ann.mem, Env.get, Env.set, gives, handT, Op.operands, Call.operands, meet, putD, params, AV.strip, keepAt, lookN, Env.keep, binAV, intBinAV, headId, tidy, flagOp, nilConst, List.filterMap_cons, List.filterMap_nil, outOf, resAll, resOf, reifyR, reify, reifyP, clo, cloL, cloLL, cloEnv, loadBox, storeBox, okPut, buildElems, buildCells, int_beq, int_bne, evDraw, evOpsD, evOpD, meetD, numbered, newsOf, newsIn, footsOk, apartF, clash, prec, Region.binds, h0, hw, hg, h46, hz, h1, g3, g4, g5, g6, S, hq, take_q0, get_q0 hq, lenArr, sliceArr, appArr, appOf, highOf, lowOf, b1, b2, b3, b4, b5, b6, cloL_app, cInt]
        | cons x pre' =>
          subst hpr
          have p0 : (0 : Int) ≤ (pre'.length : Int) + 1 := by omega
          simp [cInt] at h1 g4 g6 b1 b2 b3 b4 b5 b6
          simp [↓ev_loop, ev, evOps, evOp, wants, req, reqCall, inOf, evOpd, ofConst, ofCell, hands, Ann.mem, Env.get, Env.set, gives, handT, Op.operands, Call.operands, meet, putD, params, AV.strip, keepAt, lookN, Env.keep, binAV, intBinAV, headId, tidy, flagOp, nilConst, List.filterMap_cons, List.filterMap_nil, outOf, resAll, resOf, reifyR, reify, reifyP, clo, cloL, cloLL, cloEnv, loadBox, storeBox, okPut, buildElems, buildCells, int_beq, int_bne, evDraw, evOpsD, evOpD, meetD, numbered, newsOf, newsIn, footsOk, apartF, clash, prec, Region.binds, h0, hw, hg, h46, hz, h1, g3, g4, g5, g6, S, hq, take_q0, get_q0 hq, lenArr, sliceArr, appArr, appOf, highOf, lowOf, b1, b2, b3, b4, b5, b6, p0, cloL_app, cInt]
      | cons y post' =>
        subst hpo
        simp only at hins
        have p1 : (0 : Int) ≤ (post'.length : Int) + 1 := by omega
        by_cases hy : y = a.number
        · rw [if_pos hy] at hins
          subst hy
          refine ⟨(s + 1, ver, insN (pre ++ a.number :: post') a.number), ?_, ⟨hlt, ht2.symm, by simp only [hins, List.length_append]; omega⟩, by simp only; omega⟩
          rw [hins]
          simp only [List.length_cons, List.map_cons] at *
          have p3 : ¬ (pre.length = pre.length + (post'.length + 1)) := by omega
          have p5 : pre.length < pre.length + (post'.length + 1) := by omega
          have p6 : ¬ ((pre.length : Int) = (pre.length : Int) + ((post'.length : Int) + 1)) := by omega
          have p7 : (pre.length : Int) < (pre.length : Int) + ((post'.length : Int) + 1) := by omega
          have p8 : (List.map cInt pre ++ [I a.number] :: List.map cInt post')[pre.length]? = some [I a.number] := by rw [List.getElem?_append_right (by simp)]; simp
          have p9 : pre.length + (post'.length + 1) ≤ pre.length + (post'.length + 1) := Nat.le_refl _
          have r3' : readCells Try.prog 3 [I a.number] 0 = some (I a.number) := r3_0_3 _
          simp [cInt] at h1 g4 g6
          simp [↓ev_loop, ev, evOps, evOp, wants, req, reqCall, inOf, evOpd, ofConst, ofCell, hands, Ann.mem, Env.get, Env.set, gives, handT, Op.operands, Call.operands, meet, putD, params, AV.strip, keepAt, lookN, Env.keep, binAV, intBinAV, headId, tidy, flagOp, nilConst, List.filterMap_cons, List.filterMap_nil, outOf, resAll, resOf, reifyR, reify, reifyP, clo, cloL, cloLL, cloEnv, loadBox, storeBox, okPut, buildElems, buildCells, int_beq, int_bne, evDraw, evOpsD, evOpD, meetD, numbered, newsOf, newsIn, footsOk, apartF, clash, prec, Region.binds, h0, hw, hg, h46, hz, h1, g3, g4, g5, g6, S, hq, take_q0, get_q0 hq, lenArr, atArr, loadArr, p3, p5, p6, p7, p8, r3', cInt]
        · rw [if_neg hy] at hins
          have hlen : (insN (pre ++ y :: post') a.number).length = pre.length + (post'.length + 1) + 1 := by rw [hins]; simp; omega
          refine ⟨(s + 1, ver + 1 + 1, insN (pre ++ y :: post') a.number), ?_, ⟨hlt, ht2.symm, by simp only [hlen]; simp only [List.length_cons] at hln; omega⟩, by simp only; omega⟩
          rw [hins]
          simp only [List.length_cons, List.map_cons] at *
          have r3' : readCells Try.prog 3 [I y] 0 = some (I y) := r3_0_3 y
          cases hpr : pre with
          | nil =>
            subst hpr
            have p6 : ¬ ((0 : Int) = (post'.length : Int) + 1) := by omega
            have p7 : (0 : Int) < (post'.length : Int) + 1 := by omega
            simp [cInt] at h1 g4 g6 b1 b2 b3 b4 b5 b6
            simp [↓ev_loop, ev, evOps, evOp, wants, req, reqCall, inOf, evOpd, ofConst, ofCell, hands, Ann.mem, Env.get, Env.set, gives, handT, Op.operands, Call.operands, meet, putD, params, AV.strip, keepAt, lookN, Env.keep, binAV, intBinAV, headId, tidy, flagOp, nilConst, List.filterMap_cons, List.filterMap_nil, outOf, resAll, resOf, reifyR, reify, reifyP, clo, cloL, cloLL, cloEnv, loadBox, storeBox, okPut, buildElems, buildCells, int_beq, int_bne, evDraw, evOpsD, evOpD, meetD, numbered, newsOf, newsIn, footsOk, apartF, clash, prec, Region.binds, h0, hw, hg, h46, hz, h1, g3, g4, g5, g6, S, hq, take_q0, get_q0 hq, lenArr, atArr, loadArr, sliceArr, appArr, appOf, highOf, lowOf, b1, b2, b3, b4, b5, b6, p1, p6, p7, r3', hy, cloL_app, cInt]
            omega
          | cons x pre' =>
            subst hpr
            have p2 : (pre'.length : Int) ≤ (pre'.length : Int) + ((post'.length : Int) + 1) := by omega
            have p4 : pre'.length + 1 + (post'.length + 1) ≤ pre'.length + (post'.length + 1) + 1 := by omega
            have p3 : ¬ (pre'.length = pre'.length + (post'.length + 1)) := by omega
            have p0 : (0 : Int) ≤ (pre'.length : Int) + 1 := by omega
            have p5 : pre'.length < pre'.length + (post'.length + 1) := by omega
            have p6 : ¬ ((pre'.length : Int) = (pre'.length : Int) + ((post'.length : Int) + 1)) := by omega
            have p7 : (pre'.length : Int) < (pre'.length : Int) + ((post'.length : Int) + 1) := by omega
            have p8 : (List.map cInt pre' ++ [I y] :: List.map cInt post')[pre'.length]? = some [I y] := by rw [List.getElem?_append_right (by simp)]; simp
            simp [cInt] at h1 g4 g6 b1 b2 b3 b4 b5 b6
            simp [↓ev_loop, ev, evOps, evOp, wants, req, reqCall, inOf, evOpd, ofConst, ofCell, hands, Ann.mem, Env.get, Env.set, gives, handT, Op.operands, Call.operands, meet, putD, params, AV.strip, keepAt, lookN, Env.keep, binAV, intBinAV, headId, tidy, flagOp, nilConst, List.filterMap_cons, List.filterMap_nil, outOf, resAll, resOf, reifyR, reify, reifyP, clo, cloL, cloLL, cloEnv, loadBox, storeBox, okPut, buildElems, buildCells, int_beq, int_bne, evDraw, evOpsD, evOpD, meetD, numbered, newsOf, newsIn, footsOk, apartF, clash, prec, Region.binds, h0, hw, hg, h46, hz, h1, g3, g4, g5, g6, S, hq, take_q0, get_q0 hq, lenArr, atArr, loadArr, sliceArr, appArr, appOf, highOf, lowOf, b1, b2, b3, b4, b5, b6, p0, p1, p2, p3, p4, p5, p6, p7, p8, r3', hy, cloL_app, cInt]
            refine ⟨by omega, ?_⟩
            rw [List.take_of_length_le (by simp)]; simp
  · right
    have h0 : ¬ (s : Int) < (row.length : Int) := by omega
    rw [List.take_of_length_le hge] at ho
    have ho2 : twiceOf row = out := ho.symm
    simp [↓ev_loop, ev, evOps, evOp, wants, req, reqCall, inOf, evOpd, ofConst, ofCell, hands, Ann.mem, Env.get, Env.set, gives, handT, Op.operands, Call.operands, meet, putD, params, AV.strip, keepAt, lookN, Env.keep, binAV, intBinAV, headId, tidy, flagOp, nilConst, List.filterMap_cons, List.filterMap_nil, outOf, resAll, resOf, reifyR, reify, reifyP, clo, cloL, cloLL, cloEnv, loadBox, storeBox, okPut, buildElems, buildCells, int_beq, int_bne, h0, S, ho2]
end Go.Proofs.Ytlpilgnjlnepeaa.T
namespace Go.Proofs.Ytlpilgnjlnepeaa.T
open Go.VM Go.Proofs
set_option linter.unusedSimpArgs false
set_option maxHeartbeats 16000000
set_option maxRecDepth 10000

theorem twice28 (l : List Gazette) (hl : l.length ≤ 1000) (ht : (l.flatMap Gazette.acts).length ≤ 10000) (bs : List Nat) (H : List AO) :
    callD X 28 [S cGazette l] bs H = some (S cInt (twiceOf (l.flatMap Gazette.acts)), H) := by
  rw [callD_eq]
  simp only [Xprim]
  unfold runBody
  simp only [XP, Try.func28, Xan28, Xok28]
  obtain ⟨c0, hc0⟩ : ∃ c, (loops (Try.f28.body.getD .skip))[0]? = some c := ⟨_, rfl⟩
  obtain ⟨c1, hc1⟩ : ∃ c, (loops (Try.f28.body.getD .skip))[1]? = some c := ⟨_, rfl⟩
  have hd0 := hc0
  simp only [Try.f28, loops, List.cons_append, List.nil_append, List.append_nil, List.getElem?_cons_zero, List.getElem?_cons_succ, Option.getD_some, Option.some.injEq] at hd0
  have hd1 := hc1
  simp only [Try.f28, loops, List.cons_append, List.nil_append, List.append_nil, List.getElem?_cons_zero, List.getElem?_cons_succ, Option.getD_some, Option.some.injEq] at hd1
  simp only [Try.f28]
  (try rw [hd0])
  (try rw [hd1])
  have h45 := fun bs H => all45 l hl ht bs H
  obtain ⟨x, e', H', h1, rfl, ver, rfl, g4⟩ := lp28_0 (l.flatMap Gazette.acts) H.length (H.length :: bs) (H ++ [.arr 0 []]) c0 hc0 c1 hc1 (by simp) ht
  simp only [S, List.map_nil, Int.ofNat_eq_natCast, Int.natCast_zero, List.length_append, List.length_cons, List.length_nil, Nat.zero_add, Nat.reduceAdd] at h1
  simp only [S] at h45
  simp at h1
  simp [↓ev_loop, ev, evOps, evOp, wants, req, reqCall, inOf, evOpd, ofConst, ofCell, hands, Ann.mem, Env.get, Env.set, gives, handT, Op.operands, Call.operands, meet, putD, params, AV.strip, keepAt, lookN, Env.keep, binAV, intBinAV, headId, tidy, flagOp, nilConst, List.filterMap_cons, List.filterMap_nil, outOf, resAll, resOf, reifyR, reify, reifyP, clo, cloL, cloLL, cloEnv, loadBox, storeBox, okPut, buildElems, buildCells, int_beq, int_bne, h45, h1, g4, S]
theorem insN_ne (out : List Int) (n : Int) : insN out n ≠ [] := by
  unfold insN
  split
  · simp
  · rename_i y r hd
    split
    · intro h; rw [h] at hd; simp at hd
    · simp
theorem fold_ne (xs : List Int) : ∀ out, out ≠ [] → xs.foldl insN out ≠ [] := by
  induction xs with
  | nil => intro out h; exact h
  | cons x r ih => intro out _; exact ih _ (insN_ne _ _)
theorem dups_nil {row : List Act} (h : twiceOf row = []) : dupsOf [] row = [] := by
  unfold twiceOf at h
  cases hd : dupsOf [] row with
  | nil => rfl
  | cons x r => rw [hd] at h; exact absurd h (fold_ne r _ (insN_ne _ _))
theorem firsts_all (row : List Act) : ∀ pre, dupsOf pre row = [] → firsts pre row = row := by
  induction row with
  | nil => intro pre _; rfl
  | cons a r ih =>
    intro pre h
    unfold dupsOf at h
    by_cases ho : occurs pre a = true
    · rw [if_pos ho] at h; cases h
    · rw [if_neg ho] at h
      unfold firsts
      rw [if_neg (by simpa [occurs] using ho), ih _ h]
theorem once24 (l : List Gazette) (hl : l.length ≤ 1000) (ht : (l.flatMap Gazette.acts).length ≤ 10000) (bs : List Nat) (H : List AO) :
    callD X 24 [S cGazette l] bs H = some (.bool (decide ((twiceOf (rowOf l)).length = 0)), H) := by
  have h28 := fun bs H => twice28 l hl ht bs H
  unfold rowOf
  simp only [S] at h28
  generalize twiceOf (l.flatMap Gazette.acts) = t at *
  rw [callD_eq]
  simp only [Xprim]
  unfold runBody
  simp only [XP, Try.func24, Xan24, Xok24]
  cases t with
  | nil => simp [Try.f24, ↓ev_loop, ev, evOps, evOp, wants, req, reqCall, inOf, evOpd, ofConst, ofCell, hands, Ann.mem, Env.get, Env.set, gives, handT, Op.operands, Call.operands, meet, putD, params, AV.strip, keepAt, lookN, Env.keep, binAV, intBinAV, headId, tidy, flagOp, nilConst, List.filterMap_cons, List.filterMap_nil, outOf, resAll, resOf, reifyR, reify, reifyP, clo, cloL, cloLL, cloEnv, loadBox, storeBox, okPut, buildElems, buildCells, int_beq, int_bne, h28, S]
  | cons x r => simp [Try.f24, ↓ev_loop, ev, evOps, evOp, wants, req, reqCall, inOf, evOpd, ofConst, ofCell, hands, Ann.mem, Env.get, Env.set, gives, handT, Op.operands, Call.operands, meet, putD, params, AV.strip, keepAt, lookN, Env.keep, binAV, intBinAV, headId, tidy, flagOp, nilConst, List.filterMap_cons, List.filterMap_nil, outOf, resAll, resOf, reifyR, reify, reifyP, clo, cloL, cloLL, cloEnv, loadBox, storeBox, okPut, buildElems, buildCells, int_beq, int_bne, h28, S]; omega
/-- The turned list. -/
def turnL (l : List Gazette) (n s : Nat) : List Gazette := (List.range s).map fun j => l.getD ((l.length - 1 - j + n) % l.length) zGaz
theorem turn_succ (l : List Gazette) (n s : Nat) : turnL l n (s + 1) = turnL l n s ++ [l.getD ((l.length - 1 - s + n) % l.length) zGaz] := by
  simp [turnL, List.range_succ]
theorem turn_eq (l : List Gazette) (n : Nat) (hn : n < l.length) : turnL l n l.length = (l.take n).reverse ++ (l.drop n).reverse := by
  apply List.ext_getElem
  · simp [turnL]; omega
  intro j h1 h2
  simp [turnL] at h1
  simp only [turnL, List.getElem_map, List.getElem_range]
  by_cases hj : j < n
  · rw [List.getElem_append_left (by simp; omega)]
    have : (l.length - 1 - j + n) % l.length = n - 1 - j := by
      rw [show l.length - 1 - j + n = n - 1 - j + l.length by omega, Nat.add_mod_right, Nat.mod_eq_of_lt (by omega)]
    rw [this, List.getElem_reverse, List.getElem_take, List.getD_eq_getElem?_getD, List.getElem?_eq_getElem (by omega)]
    simp only [Option.getD_some, List.length_take]
    congr 1; omega
  · rw [List.getElem_append_right (by simp; omega)]
    have : (l.length - 1 - j + n) % l.length = l.length - 1 - j + n := Nat.mod_eq_of_lt (by omega)
    rw [this, List.getElem_reverse, List.getElem_drop, List.getD_eq_getElem?_getD, List.getElem?_eq_getElem (by omega)]
    simp only [Option.getD_some, List.length_drop, List.length_reverse, List.length_take]
    congr 1; omega
theorem turn_perm (l : List Gazette) (n : Nat) (hn : n < l.length) : (turnL l n l.length).Perm l := by
  rw [turn_eq l n hn]
  conv => rhs; rw [← List.take_append_drop n l]
  exact List.Perm.append (List.reverse_perm _) (List.reverse_perm _)
theorem items_turn {l m : List Gazette} (hp : m.Perm l) (hd : dupsOf [] (rowOf l) = []) : itemsOf m = itemsOf l := by
  have hr : (rowOf m).Perm (rowOf l) := hp.flatMap_right _
  have h1 := firsts_all _ _ hd
  have hpw := (firsts_pw (rowOf l) []).1
  rw [h1] at hpw
  have hpw2 : (rowOf m).Pairwise (fun a b => a.number ≠ b.number) := (List.Perm.pairwise_iff (fun h => Ne.symm h) hr).2 hpw
  have h2 : ∀ (row pre : List Act), (pre ++ row).Pairwise (fun a b => a.number ≠ b.number) → firsts pre row = row := by
    intro row
    induction row with
    | nil => intro pre _; rfl
    | cons a r ih =>
      intro pre h
      unfold firsts
      rw [if_neg, ih (pre ++ [a]) (by rw [List.append_assoc]; exact h)]
      intro ho
      obtain ⟨b, hb, hb2⟩ := List.any_eq_true.1 ho
      exact (List.pairwise_append.1 h).2.2 b hb a List.mem_cons_self (by simpa using hb2)
  have h3 := h2 (rowOf m) [] hpw2
  have : actsOf m = actsOf l := by
    unfold actsOf
    refine sorted_unique (rowOf l) (refActs (rowOf m)) ?_ (ref_sorted _)
    exact (ref_perm _).trans (by rw [h3, h1]; exact hr)
  unfold itemsOf; rw [this]

theorem lp7 (l : List Gazette) (n : Nat) (bs : List Nat) (H : List AO) (c0 : Code) (hc0 : (loops (Try.f7.body.getD .skip))[0]? = some c0) (hl : l.length ≤ 8) (hn : n < l.length) :
    ∃ x e' H', lev Try.prog an7 (callD X) c0 bs ((fun s : Nat => [(0, S cGazette l), (5, I n), (6, .slc true ((turnL l n s).map cGazette)), (7, I ((l.length : Int) - 1 - (s : Int)))]) (0)) ((fun s : Nat => H) (0)) = some (x, e', H') ∧ (H' = H ∧ x = .exit 0 ∧ e'.get 0 = S cGazette l ∧ e'.get 6 = .slc true ((turnL l n l.length).map cGazette)) := by
  simp only [Try.f7, loops, List.cons_append, List.nil_append, List.append_nil, List.getElem?_cons_zero, List.getElem?_cons_succ, Option.getD_some, Option.some.injEq] at hc0
  refine lev_inv (σ := Nat) (fun s => [(0, S cGazette l), (5, I n), (6, .slc true ((turnL l n s).map cGazette)), (7, I ((l.length : Int) - 1 - (s : Int)))]) (fun s => H) (fun s => s ≤ l.length) (fun s => l.length - s) (fun x e' H' => H' = H ∧ x = .exit 0 ∧ e'.get 0 = S cGazette l ∧ e'.get 6 = .slc true ((turnL l n l.length).map cGazette)) (0) ?_ ?_ ?_ ?_ ?_
  · simp
  · intro s hs; simp
  · intro s hs; simp [cloEnv, clo, cloL, S]
  · intro s hs; subst hc0; simp [keepAt, headId, lookN, Env.keep, Env.get]
  intro s hs
  subst hc0
  have htl : (turnL l n s).length = s := by simp [turnL]
  rcases Nat.lt_or_ge s l.length with hlt | hge
  · left
    obtain ⟨i, hi⟩ : ∃ i, i = l.length - 1 - s := ⟨_, rfl⟩
    have hi2 : (l.length : Int) - 1 - (s : Int) = (i : Int) := by omega
    obtain ⟨w, hw⟩ : ∃ w, w = i + n := ⟨_, rfl⟩
    have hw2 : IntKind.i64.wrap ((i : Int) + (n : Int)) = (w : Int) := wrap_n _ _ (by omega) (by omega)
    have hm : (w : Int).tmod (l.length : Int) = ((w % l.length : Nat) : Int) := rfl
    obtain ⟨y, hy⟩ : ∃ y, y = w % l.length := ⟨_, rfl⟩
    have hyl : y < l.length := by rw [hy]; exact Nat.mod_lt _ (by omega)
    have hg : l[y]? = some (l.getD y zGaz) := by rw [List.getD_eq_getElem?_getD, List.getElem?_eq_getElem hyl]; rfl
    have ht := turn_succ l n s
    rw [← hi, ← hw, ← hy] at ht
    have hw3 : IntKind.i64.wrap ((i : Int) - 1) = (l.length : Int) - 1 - ((s + 1 : Nat) : Int) := by
      rw [wrap_i64 _ (by omega) (by omega)]; omega
    have hz : ¬ (l.length = 0) := by omega
    have hz2 : ¬ l = [] := by intro h; rw [h] at hlt; simp at hlt
    have b1 : (s + 1) * 56 ≤ 140737488355328 := by omega
    have b2 : s + 1 ≤ 140737488355328 := by omega
    refine ⟨s + 1, ?_, hlt, by omega⟩
    rw [ht, hi2]
    generalize l.getD y zGaz = g at *
    generalize (l.length : Int) - 1 - ((s + 1 : Nat) : Int) = nx at *
    rw [← hy] at hm
    generalize turnL l n s = m at *
    simp [↓ev_loop, ev, evOps, evOp, wants, req, reqCall, inOf, evOpd, ofConst, ofCell, hands, Ann.mem, Env.get, Env.set, gives, handT, Op.operands, Call.operands, meet, putD, params, AV.strip, keepAt, lookN, Env.keep, binAV, intBinAV, headId, tidy, flagOp, nilConst, List.filterMap_cons, List.filterMap_nil, outOf, resAll, resOf, reifyR, reify, reifyP, clo, cloL, cloLL, cloEnv, loadBox, storeBox, okPut, buildElems, buildCells, int_beq, int_bne, hw2, hm, hg, hw3, hz, hz2, htl, b1, b2, S]
  · right
    have hs : s = l.length := by omega
    subst hs
    have hi2 : (l.length : Int) - 1 - (l.length : Int) = -1 := by omega
    rw [hi2]
    simp [↓ev_loop, ev, evOps, evOp, wants, req, reqCall, inOf, evOpd, ofConst, ofCell, hands, Ann.mem, Env.get, Env.set, gives, handT, Op.operands, Call.operands, meet, putD, params, AV.strip, keepAt, lookN, Env.keep, binAV, intBinAV, headId, tidy, flagOp, nilConst, List.filterMap_cons, List.filterMap_nil, outOf, resAll, resOf, reifyR, reify, reifyP, clo, cloL, cloLL, cloEnv, loadBox, storeBox, okPut, buildElems, buildCells, int_beq, int_bne, S]

theorem law7 (l : List Gazette) (u : Int) (hl : okG l) (hu0 : 0 ≤ u) (hu1 : u < 256) (bs : List Nat) (H : List AO) : callD X 7 [S cGazette l, .int .u8 u] bs H = some (.bool true, H) := by
  obtain ⟨r, h1, h2⟩ := few_fit hl (H.length :: bs) H
  simp only [S] at h1
  rw [callD_eq]
  simp only [Xprim]
  unfold runBody
  simp only [XP, Try.func7, Xan7, Xok7]
  obtain ⟨c0, hc0⟩ : ∃ c, (loops (Try.f7.body.getD .skip))[0]? = some c := ⟨_, rfl⟩
  have hd0 := hc0
  simp only [Try.f7, loops, List.cons_append, List.nil_append, List.append_nil, List.getElem?_cons_zero, List.getElem?_cons_succ, Option.getD_some, Option.some.injEq] at hd0
  simp only [Try.f7]
  (try rw [hd0])
  cases r
  · simp [↓ev_loop, ev, evOps, evOp, wants, req, reqCall, inOf, evOpd, ofConst, ofCell, hands, Ann.mem, Env.get, Env.set, gives, handT, Op.operands, Call.operands, meet, putD, params, AV.strip, keepAt, lookN, Env.keep, binAV, intBinAV, headId, tidy, flagOp, nilConst, List.filterMap_cons, List.filterMap_nil, outOf, resAll, resOf, reifyR, reify, reifyP, clo, cloL, cloLL, cloEnv, loadBox, storeBox, okPut, buildElems, buildCells, int_beq, int_bne, S, h1, awake11]
  · obtain ⟨hf, h8⟩ := h2 rfl
    have h24 := fun bs H => once24 l hf.len hf.row bs H
    simp only [S] at h24
    by_cases ho : (twiceOf (rowOf l)).length = 0
    rotate_left
    · rw [decide_eq_false ho] at h24
      simp [↓ev_loop, ev, evOps, evOp, wants, req, reqCall, inOf, evOpd, ofConst, ofCell, hands, Ann.mem, Env.get, Env.set, gives, handT, Op.operands, Call.operands, meet, putD, params, AV.strip, keepAt, lookN, Env.keep, binAV, intBinAV, headId, tidy, flagOp, nilConst, List.filterMap_cons, List.filterMap_nil, outOf, resAll, resOf, reifyR, reify, reifyP, clo, cloL, cloLL, cloEnv, loadBox, storeBox, okPut, buildElems, buildCells, int_beq, int_bne, S, h1, awake11, h24]
    rw [decide_eq_true ho] at h24
    by_cases hz : l = []
    · subst hz
      simp at h1 h24
      simp [↓ev_loop, ev, evOps, evOp, wants, req, reqCall, inOf, evOpd, ofConst, ofCell, hands, Ann.mem, Env.get, Env.set, gives, handT, Op.operands, Call.operands, meet, putD, params, AV.strip, keepAt, lookN, Env.keep, binAV, intBinAV, headId, tidy, flagOp, nilConst, List.filterMap_cons, List.filterMap_nil, outOf, resAll, resOf, reifyR, reify, reifyP, clo, cloL, cloLL, cloEnv, loadBox, storeBox, okPut, buildElems, buildCells, int_beq, int_bne, S, h1, awake11, h24]
    have hpos : 0 < l.length := List.length_pos_iff.2 hz
    obtain ⟨w, hw⟩ : ∃ w : Nat, w = u.toNat := ⟨_, rfl⟩
    have hu : u = (w : Int) := by omega
    subst hu
    obtain ⟨n, hn⟩ : ∃ n, n = w % l.length := ⟨_, rfl⟩
    have hnl : n < l.length := by rw [hn]; exact Nat.mod_lt _ hpos
    have hm : (w : Int).tmod (l.length : Int) = (n : Int) := by rw [hn]; rfl
    have hw1 : IntKind.i64.wrap (w : Int) = (w : Int) := wrap_i64 _ (by omega) (by omega)
    have hperm := turn_perm l n hnl
    have hd := dups_nil (List.length_eq_zero_iff.1 ho)
    have hit := items_turn hperm hd
    have hfm : Fit (turnL l n l.length) := by
      have hrow : (rowOf (turnL l n l.length)).Perm (rowOf l) := hperm.flatMap_right _
      exact ⟨by rw [hperm.length_eq]; exact hf.len, by rw [hrow.length_eq]; exact hf.row, by rw [nItems_perm hrow]; exact hf.its, fun g hg => hf.wf g (hperm.mem_iff.1 hg)⟩
    have h13 := fun bs H => hf.c13 bs H
    have h13m := fun bs H => hfm.c13 bs H
    rw [hit] at h13m
    have h12 := fun bs H => hf.c12 (itemsOf l) bs H
    obtain ⟨x, e', H', k1, rfl, rfl, g0, g6⟩ := lp7 l n (H.length :: bs) H c0 hc0 h8 hnl
    obtain ⟨i, hi⟩ : ∃ i, i = l.length - 1 := ⟨_, rfl⟩
    have hw2 : IntKind.i64.wrap ((l.length : Int) - 1) = (l.length : Int) - 1 := wrap_i64 _ (by omega) (by omega)
    have hz2 : ¬ l.length = 0 := by omega
    have hz3 : ¬ (l.length : Int) = 0 := by omega
    simp only [S, List.map_nil, Int.ofNat_eq_natCast, Int.natCast_zero, List.length_append, List.length_cons, List.length_nil, Nat.zero_add, Nat.reduceAdd] at k1
    rw [show turnL l n 0 = [] from rfl] at k1
    simp only [List.map_nil, Int.sub_zero] at k1
    simp only [S] at h13 h13m h12
    simp [↓ev_loop, ev, evOps, evOp, wants, req, reqCall, inOf, evOpd, ofConst, ofCell, hands, Ann.mem, Env.get, Env.set, gives, handT, Op.operands, Call.operands, meet, putD, params, AV.strip, keepAt, lookN, Env.keep, binAV, intBinAV, headId, tidy, flagOp, nilConst, List.filterMap_cons, List.filterMap_nil, outOf, resAll, resOf, reifyR, reify, reifyP, clo, cloL, cloLL, cloEnv, loadBox, storeBox, okPut, buildElems, buildCells, int_beq, int_bne, S, h1, awake11, h24, hz, hz2, hz3, hm, hw1, hw2, k1, g0, g6, h13, h13m, h12]
end Go.Proofs.Ytlpilgnjlnepeaa.T
namespace Go.Proofs.Ytlpilgnjlnepeaa.T
open Go.VM Go.Proofs
set_option linter.unusedSimpArgs false
set_option maxHeartbeats 16000000
set_option maxRecDepth 10000

/-! a further gazette -/
def hits (n k : Int) (x : Item) : Bool := decide (x.kind = 11) && decide (x.act = n) && decide (x.item = k)
def named (g : Gazette) (n k : Int) : Bool := (items g.acts).any (hits n k)
theorem isC_none {n k : Int} {x : Item} (h : hits n k x = false) : isC x n k = none := by
  unfold isC
  rw [if_neg]
  rintro ⟨h1, h2, h3⟩
  simp [hits, h1, h2, h3] at h
theorem step_id {n k : Int} (xs : List Item) (h : ∀ x ∈ xs, hits n k x = false) : ∀ it, xs.foldl (stepC n k) it = it := by
  induction xs with
  | nil => intro it; rfl
  | cons x r ih =>
    intro it
    simp only [List.foldl_cons]
    rw [show stepC n k it x = it by unfold stepC; rw [isC_none (h x List.mem_cons_self)]; rfl]
    exact ih (fun y hy => h y (List.mem_cons_of_mem _ hy)) it
theorem fold_filter {n k : Int} (p : Act → Bool) (L : List Act) (h : ∀ a ∈ L, p a = false → ∀ x ∈ a.items, hits n k x = false) : ∀ it, (items L).foldl (stepC n k) it = (items (L.filter p)).foldl (stepC n k) it := by
  induction L with
  | nil => intro it; rfl
  | cons a r ih =>
    intro it
    have ih' := ih (fun b hb => h b (List.mem_cons_of_mem _ hb))
    simp only [items, List.flatMap_cons, List.foldl_append] at ih' ⊢
    by_cases hp : p a = true
    · rw [List.filter_cons_of_pos hp]; simp only [List.flatMap_cons, List.foldl_append]; exact ih' _
    · rw [List.filter_cons_of_neg hp, step_id _ (h a List.mem_cons_self (by simpa using hp))]; exact ih' _
theorem firsts_append (xs ys : List Act) : ∀ pre, firsts pre (xs ++ ys) = firsts pre xs ++ firsts (pre ++ xs) ys := by
  induction xs with
  | nil => intro pre; simp [firsts]
  | cons x xs ih =>
    intro pre
    simp only [List.cons_append, firsts, ih, List.append_assoc, List.cons_append, List.nil_append]
    split <;> simp
variable {l : List Gazette} {g : Gazette}
theorem row_snoc : rowOf (l ++ [g]) = rowOf l ++ g.acts := by simp [rowOf]
theorem acts_perm : (actsOf (l ++ [g])).Perm (firsts [] (rowOf l) ++ firsts (rowOf l) g.acts) := by
  have := ref_perm (rowOf (l ++ [g]))
  rw [row_snoc, firsts_append, List.nil_append] at this
  unfold actsOf; rw [row_snoc]; exact this
theorem acts_mono {a : Act} (h : a ∈ actsOf l) : a ∈ actsOf (l ++ [g]) :=
  acts_perm.mem_iff.2 (List.mem_append_left _ ((ref_perm _).mem_iff.1 h))
theorem occ_old {a : Act} (h : a ∈ firsts [] (rowOf l)) : occurs (rowOf l) a = true := by
  unfold occurs
  rw [List.any_eq_true]
  exact ⟨a, (firsts_sub _ []).subset h, by simp⟩
theorem acts_filter : (actsOf (l ++ [g])).filter (occurs (rowOf l)) = actsOf l := by
  refine sorted_unique (rowOf l) _ ?_ ((ref_sorted _).filter _)
  refine (acts_perm.filter _).trans ?_
  rw [List.filter_append, List.filter_eq_self.2 (fun a ha => occ_old ha)]
  rw [List.filter_eq_nil_iff.2 (fun a ha => by rw [(firsts_pw g.acts (rowOf l)).2 a ha]; simp), List.append_nil]
theorem fix_same {n k : Int} (h : named g n k = false) (it : Item) : fixI (actsOf (l ++ [g])) n k it = fixI (actsOf l) n k it := by
  unfold fixI
  split
  · rw [fold_filter (occurs (rowOf l)) (actsOf (l ++ [g])), acts_filter]
    intro a ha ho x hx
    have hm := acts_perm.mem_iff.1 ha
    rcases List.mem_append.1 hm with hm | hm
    · rw [occ_old hm] at ho; cases ho
    · have hga := (firsts_sub _ _).subset hm
      have := List.any_eq_false.1 h x (List.mem_flatMap.2 ⟨a, hga, hx⟩)
      simpa using this
  · rfl
theorem mono_find {d : EI} (hd : d ∈ itemsOf l) : ∃ x, (itemsOf (l ++ [g])).find? (isE d.act d.item) = some x ∧ x.day = d.day ∧ (named g d.act d.item = false → x = d) := by
  obtain ⟨a, ha, h1, h2, e, he, rfl⟩ := item_act hd
  refine ⟨fxE (actsOf (l ++ [g])) e, ?_, rfl, fun hn => ?_⟩
  · have hm : fxE (actsOf (l ++ [g])) e ∈ itemsOf (l ++ [g]) := List.mem_flatMap.2 ⟨a, acts_mono ha, List.mem_map.2 ⟨e, he, rfl⟩⟩
    exact find_self hm
  · simp only [fxE] at hn ⊢
    rw [fix_same hn]
end Go.Proofs.Ytlpilgnjlnepeaa.T
namespace Go.Proofs.Ytlpilgnjlnepeaa.T
open Go.VM Go.Proofs
set_option linter.unusedSimpArgs false
set_option maxHeartbeats 16000000
set_option maxRecDepth 10000

theorem lp6_2 (more : List Gazette) (es : List EI) (acts : List Act) (d : EI) (its : List Item) (q p7 p8 nE k nA j : Nat) (b0 : Bool) (bs : List Nat) (H : List AO) (c2 : Code) (hc2 : (loops (Try.f6.body.getD .skip))[2]? = some c2) (hA : H[p7]? = some (.box (cEI d))) (hq : q < H.length) (hp8 : p8 < H.length) (hl : its.length ≤ 10000) :
    ∃ x e' H', lev Try.prog an6 (callD X) c2 bs ((fun s : Nat × Bool => [(3, .ptr q 0), (5, .slc true (more.map cGazette)), (7, .ptr p7 0), (8, .ptr p8 0), (9, .bool true), (10, .bool s.2), (26, .slc true (es.map cEI)), (27, I nE), (28, I k), (42, S cAct acts), (43, I nA), (44, I j), (49, S cItem its), (50, I its.length), (51, I s.1)]) ((0, b0))) ((fun s : Nat × Bool => H) ((0, b0))) = some (x, e', H') ∧ (H' = H ∧ x = .exit 4 ∧ e'.get 3 = .ptr q 0 ∧ e'.get 5 = .slc true (more.map cGazette) ∧ e'.get 7 = .ptr p7 0 ∧ e'.get 8 = .ptr p8 0 ∧ e'.get 9 = .bool true ∧ e'.get 10 = .bool (b0 || its.any (hits d.act d.item)) ∧ e'.get 26 = .slc true (es.map cEI) ∧ e'.get 27 = I nE ∧ e'.get 28 = I k ∧ e'.get 42 = S cAct acts ∧ e'.get 43 = I nA ∧ e'.get 44 = I j) := by
  simp only [Try.f6, loops, List.cons_append, List.nil_append, List.append_nil, List.getElem?_cons_zero, List.getElem?_cons_succ, Option.getD_some, Option.some.injEq] at hc2
  refine lev_inv (σ := Nat × Bool) (fun s => [(3, .ptr q 0), (5, .slc true (more.map cGazette)), (7, .ptr p7 0), (8, .ptr p8 0), (9, .bool true), (10, .bool s.2), (26, .slc true (es.map cEI)), (27, I nE), (28, I k), (42, S cAct acts), (43, I nA), (44, I j), (49, S cItem its), (50, I its.length), (51, I s.1)]) (fun s => H) (fun s => s.1 ≤ its.length ∧ s.2 = (b0 || (its.take s.1).any (hits d.act d.item))) (fun s => its.length - s.1) (fun x e' H' => H' = H ∧ x = .exit 4 ∧ e'.get 3 = .ptr q 0 ∧ e'.get 5 = .slc true (more.map cGazette) ∧ e'.get 7 = .ptr p7 0 ∧ e'.get 8 = .ptr p8 0 ∧ e'.get 9 = .bool true ∧ e'.get 10 = .bool (b0 || its.any (hits d.act d.item)) ∧ e'.get 26 = .slc true (es.map cEI) ∧ e'.get 27 = I nE ∧ e'.get 28 = I k ∧ e'.get 42 = S cAct acts ∧ e'.get 43 = I nA ∧ e'.get 44 = I j) ((0, b0)) ?_ ?_ ?_ ?_ ?_
  · exact ⟨Nat.zero_le _, by simp⟩
  · intro s hs; simp
  · intro s hs; simp [cloEnv, clo, S, lt_of_get hA, hq, hp8]
  · intro s hs; subst hc2; simp [keepAt, headId, lookN, Env.keep, Env.get]
  intro s hs
  subst hc2
  obtain ⟨s, b⟩ := s
  obtain ⟨hs, hb⟩ := hs
  simp only at hs hb ⊢
  have hp := lt_of_get hA
  rcases Nat.lt_or_ge s its.length with hlt | hge
  · left
    have h0 : (s : Int) < (its.length : Int) := by omega
    have hw := wrap_s s (by omega)
    have hg : its[s]? = some its[s] := by simp [hlt]
    have ht : (b0 || (its.take (s + 1)).any (hits d.act d.item)) = (b || hits d.act d.item its[s]) := by
      rw [take_s _ s hlt, List.any_append, hb, ← Bool.or_assoc]; simp only [List.any_cons, List.any_nil, Bool.or_false]
    refine ⟨(s + 1, b || hits d.act d.item its[s]), ?_, ⟨hlt, ht.symm⟩, by simp only; omega⟩
    clear ht
    generalize its[s] = x at hg
    have hA2 : (H ++ [.box (cItem x)])[p7]? = some (.box (cEI d)) := by rw [List.getElem?_append_left hp]; exact hA
    cases b
    · unfold hits
      by_cases k1 : x.kind = 11
      · by_cases k2 : x.act = d.act
        · by_cases k3 : x.item = d.item <;> simp [↓ev_loop, ev, evOps, evOp, wants, req, reqCall, inOf, evOpd, ofConst, ofCell, hands, Ann.mem, Env.get, Env.set, gives, handT, Op.operands, Call.operands, meet, putD, params, AV.strip, keepAt, lookN, Env.keep, binAV, intBinAV, headId, tidy, flagOp, nilConst, List.filterMap_cons, List.filterMap_nil, outOf, resAll, resOf, reifyR, reify, reifyP, clo, cloL, cloLL, cloEnv, loadBox, storeBox, okPut, buildElems, buildCells, int_beq, int_bne, h0, hw, hg, hA2, k1, k2, k3, S]
        · simp [↓ev_loop, ev, evOps, evOp, wants, req, reqCall, inOf, evOpd, ofConst, ofCell, hands, Ann.mem, Env.get, Env.set, gives, handT, Op.operands, Call.operands, meet, putD, params, AV.strip, keepAt, lookN, Env.keep, binAV, intBinAV, headId, tidy, flagOp, nilConst, List.filterMap_cons, List.filterMap_nil, outOf, resAll, resOf, reifyR, reify, reifyP, clo, cloL, cloLL, cloEnv, loadBox, storeBox, okPut, buildElems, buildCells, int_beq, int_bne, h0, hw, hg, hA2, k1, k2, S]
      · simp [↓ev_loop, ev, evOps, evOp, wants, req, reqCall, inOf, evOpd, ofConst, ofCell, hands, Ann.mem, Env.get, Env.set, gives, handT, Op.operands, Call.operands, meet, putD, params, AV.strip, keepAt, lookN, Env.keep, binAV, intBinAV, headId, tidy, flagOp, nilConst, List.filterMap_cons, List.filterMap_nil, outOf, resAll, resOf, reifyR, reify, reifyP, clo, cloL, cloLL, cloEnv, loadBox, storeBox, okPut, buildElems, buildCells, int_beq, int_bne, h0, hw, hg, hA2, k1, S]
    · simp [↓ev_loop, ev, evOps, evOp, wants, req, reqCall, inOf, evOpd, ofConst, ofCell, hands, Ann.mem, Env.get, Env.set, gives, handT, Op.operands, Call.operands, meet, putD, params, AV.strip, keepAt, lookN, Env.keep, binAV, intBinAV, headId, tidy, flagOp, nilConst, List.filterMap_cons, List.filterMap_nil, outOf, resAll, resOf, reifyR, reify, reifyP, clo, cloL, cloLL, cloEnv, loadBox, storeBox, okPut, buildElems, buildCells, int_beq, int_bne, h0, hw, hg, hA2, S]
  · right
    have h0 : ¬ (s : Int) < (its.length : Int) := by omega
    rw [List.take_of_length_le hge] at hb
    simp [↓ev_loop, ev, evOps, evOp, wants, req, reqCall, inOf, evOpd, ofConst, ofCell, hands, Ann.mem, Env.get, Env.set, gives, handT, Op.operands, Call.operands, meet, putD, params, AV.strip, keepAt, lookN, Env.keep, binAV, intBinAV, headId, tidy, flagOp, nilConst, List.filterMap_cons, List.filterMap_nil, outOf, resAll, resOf, reifyR, reify, reifyP, clo, cloL, cloLL, cloEnv, loadBox, storeBox, okPut, buildElems, buildCells, int_beq, int_bne, h0, S, hb]

theorem lp6_1 (more : List Gazette) (es : List EI) (acts : List Act) (d : EI) (q p7 p8 nE k : Nat) (bs : List Nat) (H : List AO) (c1 : Code) (hc1 : (loops (Try.f6.body.getD .skip))[1]? = some c1) (c2 : Code) (hc2 : (loops (Try.f6.body.getD .skip))[2]? = some c2) (hA : H[p7]? = some (.box (cEI d))) (hq : q < H.length) (hp8 : p8 < H.length) (hl : acts.length ≤ 10000) (hl2 : ∀ a ∈ acts, a.items.length ≤ 10000) :
    ∃ x e' H', lev Try.prog an6 (callD X) c1 bs ((fun s : Nat × Bool => [(3, .ptr q 0), (5, .slc true (more.map cGazette)), (7, .ptr p7 0), (8, .ptr p8 0), (9, .bool true), (10, .bool s.2), (26, .slc true (es.map cEI)), (27, I nE), (28, I k), (42, S cAct acts), (43, I acts.length), (44, I s.1)]) ((0, false))) ((fun s : Nat × Bool => H) ((0, false))) = some (x, e', H') ∧ (H' = H ∧ x = .exit 2 ∧ e'.get 3 = .ptr q 0 ∧ e'.get 5 = .slc true (more.map cGazette) ∧ e'.get 7 = .ptr p7 0 ∧ e'.get 8 = .ptr p8 0 ∧ e'.get 9 = .bool true ∧ e'.get 10 = .bool ((items acts).any (hits d.act d.item)) ∧ e'.get 26 = .slc true (es.map cEI) ∧ e'.get 27 = I nE ∧ e'.get 28 = I k) := by
  have hc2' := hc2
  simp only [Try.f6, loops, List.cons_append, List.nil_append, List.append_nil, List.getElem?_cons_zero, List.getElem?_cons_succ, Option.getD_some, Option.some.injEq] at hc1
  simp only [Try.f6, loops, List.cons_append, List.nil_append, List.append_nil, List.getElem?_cons_zero, List.getElem?_cons_succ, Option.getD_some, Option.some.injEq] at hc2
  refine lev_inv (σ := Nat × Bool) (fun s => [(3, .ptr q 0), (5, .slc true (more.map cGazette)), (7, .ptr p7 0), (8, .ptr p8 0), (9, .bool true), (10, .bool s.2), (26, .slc true (es.map cEI)), (27, I nE), (28, I k), (42, S cAct acts), (43, I acts.length), (44, I s.1)]) (fun s => H) (fun s => s.1 ≤ acts.length ∧ s.2 = (items (acts.take s.1)).any (hits d.act d.item)) (fun s => acts.length - s.1) (fun x e' H' => H' = H ∧ x = .exit 2 ∧ e'.get 3 = .ptr q 0 ∧ e'.get 5 = .slc true (more.map cGazette) ∧ e'.get 7 = .ptr p7 0 ∧ e'.get 8 = .ptr p8 0 ∧ e'.get 9 = .bool true ∧ e'.get 10 = .bool ((items acts).any (hits d.act d.item)) ∧ e'.get 26 = .slc true (es.map cEI) ∧ e'.get 27 = I nE ∧ e'.get 28 = I k) ((0, false)) ?_ ?_ ?_ ?_ ?_
  · exact ⟨Nat.zero_le _, rfl⟩
  · intro s hs; simp
  · intro s hs; simp [cloEnv, clo, S, lt_of_get hA, hq, hp8]
  · intro s hs; subst hc1; simp [keepAt, headId, lookN, Env.keep, Env.get]
  intro s hs
  subst hc1
  (try rw [hc2])
  obtain ⟨s, b⟩ := s
  obtain ⟨hs, hb⟩ := hs
  simp only at hs hb ⊢
  have hp := lt_of_get hA
  rcases Nat.lt_or_ge s acts.length with hlt | hge
  · left
    have h0 : (s : Int) < (acts.length : Int) := by omega
    have hw := wrap_s s (by omega)
    have hg : acts[s]? = some acts[s] := by simp [hlt]
    have ht : (items (acts.take (s + 1))).any (hits d.act d.item) = (b || acts[s].items.any (hits d.act d.item)) := by
      rw [take_s _ s hlt, hb]; simp only [items, List.flatMap_append, List.flatMap_cons, List.flatMap_nil, List.append_nil, List.any_append]
    have hla := hl2 _ (List.getElem_mem hlt)
    refine ⟨(s + 1, b || acts[s].items.any (hits d.act d.item)), ?_, ⟨hlt, ht.symm⟩, by simp only; omega⟩
    clear ht
    generalize acts[s] = a at hg hla
    have hA2 : (H ++ [.box (cAct a)])[p7]? = some (.box (cEI d)) := by rw [List.getElem?_append_left hp]; exact hA
    obtain ⟨x, e', H', h1, rfl, rfl, g3, g5, g7, g8, g9, g10, g26, g27, g28, g42, g43, g44⟩ := lp6_2 more es acts d a.items q p7 p8 nE k acts.length s b (H.length :: bs) (H ++ [.box (cAct a)]) c2 hc2' hA2 (by simp; omega) (by simp; omega) hla
    simp only [S, List.map_nil, Int.ofNat_eq_natCast, Int.natCast_zero, List.length_append, List.length_cons, List.length_nil, Nat.zero_add, Nat.reduceAdd] at h1
    simp [↓ev_loop, ev, evOps, evOp, wants, req, reqCall, inOf, evOpd, ofConst, ofCell, hands, Ann.mem, Env.get, Env.set, gives, handT, Op.operands, Call.operands, meet, putD, params, AV.strip, keepAt, lookN, Env.keep, binAV, intBinAV, headId, tidy, flagOp, nilConst, List.filterMap_cons, List.filterMap_nil, outOf, resAll, resOf, reifyR, reify, reifyP, clo, cloL, cloLL, cloEnv, loadBox, storeBox, okPut, buildElems, buildCells, int_beq, int_bne, h0, hw, hg, h1, g3, g5, g7, g8, g9, g10, g26, g27, g28, g42, g43, g44, S]
  · right
    have h0 : ¬ (s : Int) < (acts.length : Int) := by omega
    rw [List.take_of_length_le hge] at hb
    simp [↓ev_loop, ev, evOps, evOp, wants, req, reqCall, inOf, evOpd, ofConst, ofCell, hands, Ann.mem, Env.get, Env.set, gives, handT, Op.operands, Call.operands, meet, putD, params, AV.strip, keepAt, lookN, Env.keep, binAV, intBinAV, headId, tidy, flagOp, nilConst, List.filterMap_cons, List.filterMap_nil, outOf, resAll, resOf, reifyR, reify, reifyP, clo, cloL, cloLL, cloEnv, loadBox, storeBox, okPut, buildElems, buildCells, int_beq, int_bne, h0, S, hb]

theorem lp6_0 (l : List Gazette) (g : Gazette) (q : Nat) (bs : List Nat) (H : List AO) (c0 : Code) (hc0 : (loops (Try.f6.body.getD .skip))[0]? = some c0) (c1 : Code) (hc1 : (loops (Try.f6.body.getD .skip))[1]? = some c1) (c2 : Code) (hc2 : (loops (Try.f6.body.getD .skip))[2]? = some c2) (hG : H[q]? = some (.box (cGazette g))) (hF : Fit (l ++ [g])) (hfl : Fit l) (hga : g.acts.length ≤ 10000) (hgi : ∀ a ∈ g.acts, a.items.length ≤ 10000) :
    ∃ x e' H', lev Try.prog an6 (callD X) c0 bs ((fun s : Nat => [(3, .ptr q 0), (5, .slc true ((l ++ [g]).map cGazette)), (26, .slc true ((itemsOf l).map cEI)), (27, I (itemsOf l).length), (28, I s)]) (0)) ((fun s : Nat => H) (0)) = some (x, e', H') ∧ (H' = H ∧ x = .exit 0) := by
  have hc1' := hc1
  have hc2' := hc2
  simp only [Try.f6, loops, List.cons_append, List.nil_append, List.append_nil, List.getElem?_cons_zero, List.getElem?_cons_succ, Option.getD_some, Option.some.injEq] at hc0
  simp only [Try.f6, loops, List.cons_append, List.nil_append, List.append_nil, List.getElem?_cons_zero, List.getElem?_cons_succ, Option.getD_some, Option.some.injEq] at hc1
  simp only [Try.f6, loops, List.cons_append, List.nil_append, List.append_nil, List.getElem?_cons_zero, List.getElem?_cons_succ, Option.getD_some, Option.some.injEq] at hc2
  refine lev_inv (σ := Nat) (fun s => [(3, .ptr q 0), (5, .slc true ((l ++ [g]).map cGazette)), (26, .slc true ((itemsOf l).map cEI)), (27, I (itemsOf l).length), (28, I s)]) (fun s => H) (fun s => s ≤ (itemsOf l).length) (fun s => (itemsOf l).length - s) (fun x e' H' => H' = H ∧ x = .exit 0) (0) ?_ ?_ ?_ ?_ ?_
  · simp
  · intro s hs; simp
  · intro s hs; simp [cloEnv, clo, S, lt_of_get hG, -List.map_append]
  · intro s hs; subst hc0; simp [keepAt, headId, lookN, Env.keep, Env.get]
  intro s hs
  subst hc0
  (try rw [hc1])
  (try rw [hc2])
  have hq := lt_of_get hG
  have hil := hfl.items_len
  rcases Nat.lt_or_ge s (itemsOf l).length with hlt | hge
  · left
    have h0 : (s : Int) < ((itemsOf l).length : Int) := by omega
    have hw := wrap_s s (by omega)
    have hg : (itemsOf l)[s]? = some (itemsOf l)[s] := by simp [hlt]
    obtain ⟨x, hx1, hx2, hx3⟩ := mono_find (g := g) (List.getElem_mem hlt)
    have h15 := fun bs H => hF.c15 (itemsOf l)[s].act (itemsOf l)[s].item bs H
    have h17 := fun y bs H => eq17 x y (hF.items_wf x (List.mem_of_find?_eq_some hx1)) bs H
    refine ⟨s + 1, ?_, hlt, by omega⟩
    generalize (itemsOf l)[s] = d at hg hx1 hx2 hx3 h15
    generalize itemsOf l = es at *
    simp only [S, found, hx1, Option.getD_some, Option.isSome_some, List.map_append, List.map_cons, List.map_nil] at h15
    have hG2 : (H ++ [.box (cEI d), .box (cEI x)])[q]? = some (.box (cGazette g)) := by rw [List.getElem?_append_left hq]; exact hG
    obtain ⟨x1, e', H', h1, rfl, rfl, g3, g5, g7, g8, g9, g10, g26, g27, g28⟩ := lp6_1 (l ++ [g]) es g.acts d q H.length (H.length + 1) es.length s (H.length :: bs) (H ++ [.box (cEI d), .box (cEI x)]) c1 hc1' c2 hc2' (by simp) (by simp; omega) (by simp) hga hgi
    simp only [S, List.map_nil, Int.ofNat_eq_natCast, Int.natCast_zero, List.length_append, List.length_cons, List.length_nil, Nat.zero_add, Nat.reduceAdd] at h1
    simp only [List.map_append, List.map_cons, List.map_nil] at h1 g5
    simp only [S, List.map_append, List.map_cons, List.map_nil]
    change e'.get 10 = .bool (named g d.act d.item) at g10
    cases hn : named g d.act d.item
    · have hxd := hx3 hn
      subst hxd
      rw [hn] at g10
      simp [↓ev_loop, ev, evOps, evOp, wants, req, reqCall, inOf, evOpd, ofConst, ofCell, hands, Ann.mem, Env.get, Env.set, gives, handT, Op.operands, Call.operands, meet, putD, params, AV.strip, keepAt, lookN, Env.keep, binAV, intBinAV, headId, tidy, flagOp, nilConst, List.filterMap_cons, List.filterMap_nil, outOf, resAll, resOf, reifyR, reify, reifyP, clo, cloL, cloLL, cloEnv, loadBox, storeBox, okPut, buildElems, buildCells, int_beq, int_bne, h0, hw, hg, h1, h15, h17, hG2, g3, g5, g7, g8, g9, g10, g26, g27, g28, S]
    · rw [hn] at g10
      simp [↓ev_loop, ev, evOps, evOp, wants, req, reqCall, inOf, evOpd, ofConst, ofCell, hands, Ann.mem, Env.get, Env.set, gives, handT, Op.operands, Call.operands, meet, putD, params, AV.strip, keepAt, lookN, Env.keep, binAV, intBinAV, headId, tidy, flagOp, nilConst, List.filterMap_cons, List.filterMap_nil, outOf, resAll, resOf, reifyR, reify, reifyP, clo, cloL, cloLL, cloEnv, loadBox, storeBox, okPut, buildElems, buildCells, int_beq, int_bne, h0, hw, hg, h1, h15, h17, hG2, hx2, g3, g5, g7, g8, g9, g10, g26, g27, g28, S]
  · right
    have h0 : ¬ (s : Int) < ((itemsOf l).length : Int) := by omega
    simp [↓ev_loop, ev, evOps, evOp, wants, req, reqCall, inOf, evOpd, ofConst, ofCell, hands, Ann.mem, Env.get, Env.set, gives, handT, Op.operands, Call.operands, meet, putD, params, AV.strip, keepAt, lookN, Env.keep, binAV, intBinAV, headId, tidy, flagOp, nilConst, List.filterMap_cons, List.filterMap_nil, outOf, resAll, resOf, reifyR, reify, reifyP, clo, cloL, cloLL, cloEnv, loadBox, storeBox, okPut, buildElems, buildCells, int_beq, int_bne, h0, S]
end Go.Proofs.Ytlpilgnjlnepeaa.T
namespace Go.Proofs.Ytlpilgnjlnepeaa.T
open Go.VM Go.Proofs
set_option linter.unusedSimpArgs false
set_option maxHeartbeats 16000000
set_option maxRecDepth 10000

theorem nItems_row_le {l : List Gazette} {g : Gazette} {a : Act} (ha : a ∈ g.acts) : a.items.length ≤ nItems (rowOf (l ++ [g])) :=
  sub_nItems (by rw [row_snoc]; exact List.mem_append_right _ ha)
theorem law6 (l : List Gazette) (g : Gazette) (hl : okG l) (hb : l.length * 56 ≤ 140737488351232) (hg : wfG g) (bs : List Nat) (H : List AO) : callD X 6 [S cGazette l, .agg (cGazette g)] bs H = some (.bool true, H) := by
  have hlm : okG (l ++ [g]) := ⟨by simp; omega, fun x hx => by rcases List.mem_append.1 hx with h | h; exact hl.2 x h; rw [List.mem_singleton.1 h]; exact hg⟩
  obtain ⟨r, h1, h2⟩ := few_fit hlm (H.length :: bs) (H ++ [.box (cGazette g)])
  simp only [S, List.map_append, List.map_cons, List.map_nil] at h1
  have b1 : (l.length + 1) * 56 ≤ 140737488355328 := by omega
  have b2 : l.length + 1 ≤ 140737488355328 := by omega
  have b3 : l.length * 56 ≤ 140737488355328 := by omega
  have b4 : l.length ≤ 140737488355328 := by omega
  rw [callD_eq]
  simp only [Xprim]
  unfold runBody
  simp only [XP, Try.func6, Xan6, Xok6]
  obtain ⟨c0, hc0⟩ : ∃ c, (loops (Try.f6.body.getD .skip))[0]? = some c := ⟨_, rfl⟩
  obtain ⟨c1, hc1⟩ : ∃ c, (loops (Try.f6.body.getD .skip))[1]? = some c := ⟨_, rfl⟩
  obtain ⟨c2, hc2⟩ : ∃ c, (loops (Try.f6.body.getD .skip))[2]? = some c := ⟨_, rfl⟩
  have hd0 := hc0
  simp only [Try.f6, loops, List.cons_append, List.nil_append, List.append_nil, List.getElem?_cons_zero, List.getElem?_cons_succ, Option.getD_some, Option.some.injEq] at hd0
  have hd1 := hc1
  simp only [Try.f6, loops, List.cons_append, List.nil_append, List.append_nil, List.getElem?_cons_zero, List.getElem?_cons_succ, Option.getD_some, Option.some.injEq] at hd1
  have hd2 := hc2
  simp only [Try.f6, loops, List.cons_append, List.nil_append, List.append_nil, List.getElem?_cons_zero, List.getElem?_cons_succ, Option.getD_some, Option.some.injEq] at hd2
  simp only [Try.f6]
  (try rw [hd0])
  (try rw [hd1])
  (try rw [hd2])
  cases r
  · by_cases hz : l = []
    · subst hz
      simp at h1
      simp (config := { maxSteps := 1000000 }) [↓ev_loop, ev, evOps, evOp, wants, req, reqCall, inOf, evOpd, ofConst, ofCell, hands, Ann.mem, Env.get, Env.set, gives, handT, Op.operands, Call.operands, meet, putD, params, AV.strip, keepAt, lookN, Env.keep, binAV, intBinAV, headId, tidy, flagOp, nilConst, List.filterMap_cons, List.filterMap_nil, outOf, resAll, resOf, reifyR, reify, reifyP, clo, cloL, cloLL, cloEnv, loadBox, storeBox, okPut, buildElems, buildCells, int_beq, int_bne, evDraw, evOpsD, evOpD, meetD, numbered, newsOf, newsIn, footsOk, apartF, clash, prec, Region.binds, S, h1, awake11]
    · simp (config := { maxSteps := 1000000 }) [↓ev_loop, ev, evOps, evOp, wants, req, reqCall, inOf, evOpd, ofConst, ofCell, hands, Ann.mem, Env.get, Env.set, gives, handT, Op.operands, Call.operands, meet, putD, params, AV.strip, keepAt, lookN, Env.keep, binAV, intBinAV, headId, tidy, flagOp, nilConst, List.filterMap_cons, List.filterMap_nil, outOf, resAll, resOf, reifyR, reify, reifyP, clo, cloL, cloLL, cloEnv, loadBox, storeBox, okPut, buildElems, buildCells, int_beq, int_bne, evDraw, evOpsD, evOpD, meetD, numbered, newsOf, newsIn, footsOk, apartF, clash, prec, Region.binds, S, h1, awake11, hz, b1, b2, b3, b4]
  · obtain ⟨hf, h8⟩ := h2 rfl
    have hfl : Fit l := by have := hf.take l.length; rwa [List.take_left] at this
    have hga : g.acts.length ≤ 10000 := by
      have := hf.row; rw [row_snoc, List.length_append] at this; omega
    have hgi : ∀ a ∈ g.acts, a.items.length ≤ 10000 := fun a ha => Nat.le_trans (nItems_row_le (l := l) ha) hf.its
    have h13 := fun bs H => hfl.c13 bs H
    simp only [S] at h13
    obtain ⟨x, e', H', k1, rfl, rfl⟩ := lp6_0 l g H.length (H.length :: bs) (H ++ [.box (cGazette g)]) c0 hc0 c1 hc1 c2 hc2 (by simp) hf hfl hga hgi
    simp only [S, List.map_nil, Int.ofNat_eq_natCast, Int.natCast_zero, List.length_append, List.length_cons, List.length_nil, Nat.zero_add, Nat.reduceAdd] at k1
    simp only [List.map_append, List.map_cons, List.map_nil] at k1
    by_cases hz : l = []
    · subst hz
      simp at h1 h13 k1
      simp (config := { maxSteps := 1000000 }) [↓ev_loop, ev, evOps, evOp, wants, req, reqCall, inOf, evOpd, ofConst, ofCell, hands, Ann.mem, Env.get, Env.set, gives, handT, Op.operands, Call.operands, meet, putD, params, AV.strip, keepAt, lookN, Env.keep, binAV, intBinAV, headId, tidy, flagOp, nilConst, List.filterMap_cons, List.filterMap_nil, outOf, resAll, resOf, reifyR, reify, reifyP, clo, cloL, cloLL, cloEnv, loadBox, storeBox, okPut, buildElems, buildCells, int_beq, int_bne, evDraw, evOpsD, evOpD, meetD, numbered, newsOf, newsIn, footsOk, apartF, clash, prec, Region.binds, S, h1, awake11, h13, k1]
    · simp (config := { maxSteps := 1000000 }) [↓ev_loop, ev, evOps, evOp, wants, req, reqCall, inOf, evOpd, ofConst, ofCell, hands, Ann.mem, Env.get, Env.set, gives, handT, Op.operands, Call.operands, meet, putD, params, AV.strip, keepAt, lookN, Env.keep, binAV, intBinAV, headId, tidy, flagOp, nilConst, List.filterMap_cons, List.filterMap_nil, outOf, resAll, resOf, reifyR, reify, reifyP, clo, cloL, cloLL, cloEnv, loadBox, storeBox, okPut, buildElems, buildCells, int_beq, int_bne, evDraw, evOpsD, evOpD, meetD, numbered, newsOf, newsIn, footsOk, apartF, clash, prec, Region.binds, S, h1, awake11, hz, b1, b2, b3, b4, h13, k1]
end Go.Proofs.Ytlpilgnjlnepeaa.T
namespace Go.Proofs.Ytlpilgnjlnepeaa.T
open Go.VM Go.Proofs
set_option maxHeartbeats 16000000
theorem ns5 : fldT Try.prog 5 = none := by kernel_rfl
theorem by60w : Try.prog.bytesOf 60 = 56 := by kernel_rfl
set_option maxRecDepth 100000 in
theorem argU {x : AV} (h : Go.VM.GoodV Try.prog 5 x) : ∃ n : Int, x = .int .u8 n ∧ 0 ≤ n ∧ n < 256 := by
  have h1 : ∃ n, Go.VM.Good Try.prog n 5 [x] := goodV_plain ns5 h
  clear h
  obtain ⟨n, h⟩ := h1
  obtain ⟨i, h1, h2⟩ := good_int int5 h
  injection h1 with h1
  simp only [Lit.wf, Bool.and_eq_true, decide_eq_true_eq] at h2
  have a : IntKind.min .u8 = 0 := rfl
  have b : IntKind.max .u8 = 255 := rfl
  rw [a, b] at h2
  exact ⟨i, h1, h2.1, by omega⟩
set_option maxRecDepth 100000 in
theorem argW {x : AV} (h : Go.VM.GoodV Try.prog 22 x) : ∃ l, x = S cGazette l ∧ (l.length ≤ 4000000000000000000 ∧ ∀ g ∈ l, wfG g) ∧ l.length * 56 ≤ 140737488351232 := by
  have h1 : ∃ n, Go.VM.Good Try.prog n 22 [x] := goodV_plain ns22 h
  clear h
  obtain ⟨n, h⟩ := h1
  obtain ⟨m, hm, es, h1, h2, h3⟩ := good_slc sel22 h
  obtain ⟨l, h4, h5, h6⟩ := dec22 h
  rw [by60w] at h2
  rw [h1] at h4
  injection h4 with h4
  injection h4 with _ h4
  injection h1 with h1
  rw [h4, List.length_map, show reachBytes = 140737488351232 from rfl] at h2
  exact ⟨l, by rw [h1, h4]; rfl, ⟨h5, h6⟩, h2⟩
end Go.Proofs.Ytlpilgnjlnepeaa.T
