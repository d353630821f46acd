/-
  What the functions answer: equality of items, the bounds of the examples.
-/
import Derived.Test.YtlpilgnjlnepeaaT1
set_option linter.all false
namespace Go.Proofs.Ytlpilgnjlnepeaa.T
open Go.VM Go.Proofs
set_option linter.unusedSimpArgs false
set_option maxHeartbeats 4000000
set_option maxRecDepth 10000
theorem wrap_i64 (n : Int) (h0 : -9223372036854775808 ≤ n) (h1 : n ≤ 9223372036854775807) : IntKind.i64.wrap n = n := by
  simp [IntKind.wrap, IntKind.bits, IntKind.signed]; omega
theorem wrap_s (i : Nat) (h1 : i < 4611686018427387904) : IntKind.i64.wrap ((i : Int) + 1) = ((i + 1 : Nat) : Int) := by
  rw [wrap_i64 _ (by omega) (by omega)]; rfl
theorem uni_map {α : Type} (c : α → List AV) (k : Nat) (h : ∀ x, (c x).length = k) (xs : List α) : uni k (xs.map c) = true := by
  simp [uni, h]

theorem take_s {α : Type} (l : List α) (i : Nat) (h : i < l.length) : l.take (i + 1) = l.take i ++ [l[i]] := by
  rw [List.take_add_one]; simp [h]
theorem fm_le {α β : Type} (f : α → List β) (l : List α) (i : Nat) (h : i < l.length) : ((l.take i).flatMap f).length + (f l[i]).length ≤ (l.flatMap f).length := by
  have h1 : (l.flatMap f) = (l.take i).flatMap f ++ f l[i] ++ (l.drop (i + 1)).flatMap f := by
    conv => lhs; rw [← List.take_append_drop (i + 1) l, take_s l i h]
    simp only [List.flatMap_append, List.flatMap_cons, List.flatMap_nil, List.append_nil]
  rw [h1]; simp only [List.length_append]; omega

theorem lp45 (l : List Gazette) (bs : List Nat) (H : List AO) (c0 : Code) (hc0 : (loops (Try.f45.body.getD .skip))[0]? = some c0) (hl : l.length ≤ 1000) (ht : (l.flatMap Gazette.acts).length ≤ 10000) :
    ∃ x e' H', lev Try.prog an45 (callD X) c0 bs ((fun s : Nat × List Act => [(0, S cGazette l), (3, .slc true (s.2.map cAct)), (4, I s.1)]) ((0, []))) ((fun s : Nat × List Act => H) ((0, []))) = some (x, e', H') ∧ (x = .exit 0 ∧ H' = H ∧ e'.get 3 = .slc true ((l.flatMap Gazette.acts).map cAct)) := by
  simp only [Try.f45, loops, List.cons_append, List.nil_append, List.append_nil, List.getElem?_cons_zero, List.getElem?_cons_succ, Option.getD_some, Option.some.injEq] at hc0
  refine lev_inv (σ := Nat × List Act) (fun s => [(0, S cGazette l), (3, .slc true (s.2.map cAct)), (4, I s.1)]) (fun s => H) (fun s => s.1 ≤ l.length ∧ s.2 = (l.take s.1).flatMap Gazette.acts) (fun s => l.length - s.1) (fun x e' H' => x = .exit 0 ∧ H' = H ∧ e'.get 3 = .slc true ((l.flatMap Gazette.acts).map cAct)) ((0, [])) ?_ ?_ ?_ ?_ ?_
  · simp
  · intro s hs; simp
  · intro s hs; simp [cloEnv, clo, S]
  · intro s hs; subst hc0; simp [keepAt, headId, lookN, Env.keep, Env.get]
  intro s hs
  subst hc0
  obtain ⟨i, acc⟩ := s
  obtain ⟨hs, ha⟩ := hs
  simp only at hs ha ⊢
  rcases Nat.lt_or_ge i l.length with hlt | hge
  · left
    have h0 : (i : Int) < (l.length : Int) := by omega
    have hw := wrap_s i (by omega)
    have ht2 : (l.take (i + 1)).flatMap Gazette.acts = acc ++ l[i].acts := by rw [ha, take_s l i hlt]; simp only [List.flatMap_append, List.flatMap_cons, List.flatMap_nil, List.append_nil]
    have h3 : acc.length + l[i].acts.length ≤ 10000 := by
      have h4 := fm_le Gazette.acts l i hlt; rw [← ha] at h4; omega
    refine ⟨(i + 1, acc ++ l[i].acts), ?_, ⟨hlt, ht2.symm⟩, by simp only; omega⟩
    have hg : l[i]? = some l[i] := by simp [hlt]
    generalize l[i] = g at *
    have h5 : (acc.length + g.acts.length) * 88 ≤ 140737488355328 := by omega
    have h6 : acc.length + g.acts.length ≤ 140737488355328 := by omega
    by_cases he : g.acts = []
    · simp [↓ev_loop, ev, evOps, evOp, wants, req, reqCall, inOf, evOpd, ofConst, ofCell, hands, Ann.mem, Env.get, Env.set, gives, handT, Op.operands, Call.operands, meet, putD, params, AV.strip, keepAt, lookN, Env.keep, binAV, intBinAV, headId, tidy, flagOp, nilConst, List.filterMap_cons, List.filterMap_nil, outOf, resAll, resOf, reifyR, reify, reifyP, clo, cloL, cloLL, cloEnv, loadBox, storeBox, buildElems, buildCells, int_beq, int_bne, S, h0, hw, hg, he]
    · simp [↓ev_loop, ev, evOps, evOp, wants, req, reqCall, inOf, evOpd, ofConst, ofCell, hands, Ann.mem, Env.get, Env.set, gives, handT, Op.operands, Call.operands, meet, putD, params, AV.strip, keepAt, lookN, Env.keep, binAV, intBinAV, headId, tidy, flagOp, nilConst, List.filterMap_cons, List.filterMap_nil, outOf, resAll, resOf, reifyR, reify, reifyP, clo, cloL, cloLL, cloEnv, loadBox, storeBox, buildElems, buildCells, int_beq, int_bne, S, h0, hw, hg, he, h5, h6, uni_map cAct 7 len_cAct]
  · right
    have h0 : ¬ (i : Int) < (l.length : Int) := by omega
    have : i = l.length := by omega
    subst this
    simp [↓ev_loop, ev, evOps, evOp, wants, req, reqCall, inOf, evOpd, ofConst, ofCell, hands, Ann.mem, Env.get, Env.set, gives, handT, Op.operands, Call.operands, meet, putD, params, AV.strip, keepAt, lookN, Env.keep, binAV, intBinAV, headId, tidy, flagOp, nilConst, List.filterMap_cons, List.filterMap_nil, outOf, resAll, resOf, reifyR, reify, reifyP, clo, cloL, cloLL, cloEnv, loadBox, storeBox, buildElems, buildCells, int_beq, int_bne, S, h0, ha]

theorem all45 (l : List Gazette) (hl : l.length ≤ 1000) (ht : (l.flatMap Gazette.acts).length ≤ 10000) (bs : List Nat) (H : List AO) : callD X 45 [S cGazette l] bs H = some (.slc true ((l.flatMap Gazette.acts).map cAct), H) := by
  rw [callD_eq]
  simp only [Xprim]
  unfold runBody
  simp only [XP, Try.func45, Xan45, Xok45]
  obtain ⟨c0, hc0⟩ : ∃ c, (loops (Try.f45.body.getD .skip))[0]? = some c := ⟨_, rfl⟩
  have hd0 := hc0
  simp only [Try.f45, loops, List.cons_append, List.nil_append, List.append_nil, List.getElem?_cons_zero, List.getElem?_cons_succ, Option.getD_some, Option.some.injEq] at hd0
  simp only [Try.f45]
  rw [hd0]
  obtain ⟨x, e', H', h1, rfl, rfl, h3⟩ := lp45 l (H.length :: bs) H c0 hc0 hl ht
  simp only [List.map_nil, Int.ofNat_eq_natCast, Int.natCast_zero, S] at h1
  simp [↓ev_loop, ev, evOps, evOp, wants, req, reqCall, inOf, evOpd, ofConst, ofCell, hands, Ann.mem, Env.get, Env.set, gives, handT, Op.operands, Call.operands, meet, putD, params, AV.strip, keepAt, lookN, Env.keep, binAV, intBinAV, headId, tidy, flagOp, nilConst, List.filterMap_cons, List.filterMap_nil, outOf, resAll, resOf, reifyR, reify, reifyP, clo, cloL, cloLL, cloEnv, loadBox, storeBox, buildElems, buildCells, int_beq, int_bne, h1, h3, S]
end Go.Proofs.Ytlpilgnjlnepeaa.T
namespace Go.Proofs.Ytlpilgnjlnepeaa.T
open Go.VM Go.Proofs
set_option linter.unusedSimpArgs false
set_option maxHeartbeats 4000000
set_option maxRecDepth 10000
@[simp] theorem len_cStr (x : ByteArray) : (cStr x).length = 1 := rfl
@[simp] theorem len_cInt (x : Int) : (cInt x).length = 1 := rfl
@[simp] theorem r9_0_9 (x : ByteArray) : readCells Try.prog 9 (cStr x) 0 = some (.str x) := rd ag9 rfl
@[simp] theorem r3_0_3 (x : Int) : readCells Try.prog 3 (cInt x) 0 = some (I x) := rd ag3 rfl
noncomputable def beqP {α : Type} (a b : α) : Bool := @decide (a = b) (Classical.propDecidable _)
@[simp] theorem beqP_self {α : Type} (a : α) : beqP a a = true := by simp [beqP]
@[simp] theorem beqP_iff {α : Type} {a b : α} : beqP a b = true ↔ a = b := by simp [beqP]
@[simp] theorem beqP_not {α : Type} {a b : α} : beqP a b = false ↔ a ≠ b := by simp [beqP]
theorem beqP_ne {α : Type} {a b : α} (h : a ≠ b) : beqP a b = false := by simp [h]
theorem str_beq (x y : ByteArray) : (x.toList == y.toList) = beqP x y := by
  by_cases h : x = y
  · subst h; simp
  · rw [beqP_ne h]
    have : x.toList ≠ y.toList := fun h' => h (by
      have h2 : x.data.toList = y.data.toList := by simpa [ByteArray.toList_eq] using h'
      cases x; cases y; simp at h2; simp [h2])
    simpa using this
theorem ba_beq (x y : ByteArray) : (x == y) = beqP x y := by
  by_cases h : x = y
  · subst h; rw [beqP_self]; show (x.data == x.data) = true; simp
  · rw [beqP_ne h]; show (x.data == y.data) = false
    simp only [beq_eq_false_iff_ne, ne_eq]
    exact fun h' => h (by cases x; cases y; exact congrArg ByteArray.mk h')
theorem int_beqP (x y : Int) : decide (x = y) = beqP x y := by
  by_cases h : x = y <;> simp [h]
theorem step_ext (x y : Step) : (beqP x.kind y.kind && beqP x.label y.label) = beqP x y := by
  cases x; cases y; rw [Bool.eq_iff_iff]; simp
theorem word_ext (x y : Word) : (beqP x.text y.text && (beqP x.by_.act y.by_.act && (beqP x.by_.item y.by_.item && beqP x.by_.at_ y.by_.at_))) = beqP x y := by
  obtain ⟨t, b⟩ := x; obtain ⟨t', b'⟩ := y; cases b; cases b'; rw [Bool.eq_iff_iff]; simp
theorem id_ext (x y : Id) : (beqP x.act y.act && (beqP x.item y.item && beqP x.n y.n)) = beqP x y := by
  cases x; cases y; rw [Bool.eq_iff_iff]; simp
theorem start_ext (x y : Start) : (beqP x.kind y.kind && (beqP x.day y.day && beqP x.event y.event)) = beqP x y := by
  cases x; cases y; rw [Bool.eq_iff_iff]; simp
@[simp] theorem eqv71 (x y : Step) : eqAV Try.prog 71 (.agg (cStep x)) (.agg (cStep y)) = some (beqP x y) := by
  simp [eqAV, eqCells, eqCell, cStep, int_beq, int_beqP, ba_beq, step_ext]
@[simp] theorem eqv112 (x y : Word) : eqAV Try.prog 112 (.agg (cWord x)) (.agg (cWord y)) = some (beqP x y) := by
  simp [eqAV, eqCells, eqCell, cWord, int_beq, int_beqP, ba_beq, word_ext]
@[simp] theorem eqv32 (x y : Id) : eqAV Try.prog 32 (.agg (cId x)) (.agg (cId y)) = some (beqP x y) := by
  simp [eqAV, eqCells, eqCell, cId, int_beq, int_beqP, ba_beq, id_ext]
@[simp] theorem eqv39 (x y : Start) : eqAV Try.prog 39 (.agg (cStart x)) (.agg (cStart y)) = some (beqP x y) := by
  simp [eqAV, eqCells, eqCell, cStart, int_beq, int_beqP, ba_beq, start_ext]

theorem lp48 (a b : List Step) (bs : List Nat) (H : List AO) (c0 : Code) (hc0 : (loops (Try.f48.body.getD .skip))[0]? = some c0) (hl : a.length ≤ 4000000000000000000) (hab : a.length = b.length) :
    ∃ x e' H', lev Try.prog an48 (callD X) c0 bs ((fun s : Nat => [(0, S cStep a), (1, S cStep b), (5, I s)]) (0)) ((fun s : Nat => H) (0)) = some (x, e', H') ∧ (H' = H ∧ ((x = .exit 0 ∧ a = b) ∨ (x = .ret ∧ e'.get 4 = .bool false ∧ a ≠ b))) := by
  simp only [Try.f48, loops, List.cons_append, List.nil_append, List.append_nil, List.getElem?_cons_zero, List.getElem?_cons_succ, Option.getD_some, Option.some.injEq] at hc0
  refine lev_inv (σ := Nat) (fun s => [(0, S cStep a), (1, S cStep b), (5, I s)]) (fun s => H) (fun s => s ≤ a.length ∧ a.take s = b.take s) (fun s => a.length - s) (fun x e' H' => H' = H ∧ ((x = .exit 0 ∧ a = b) ∨ (x = .ret ∧ e'.get 4 = .bool false ∧ a ≠ b))) (0) ?_ ?_ ?_ ?_ ?_
  · simp
  · intro s hs; simp
  · intro s hs; simp [cloEnv, clo, S]
  · intro s hs; subst hc0; simp [keepAt, headId, lookN, Env.keep, Env.get]
  intro s hs
  subst hc0
  obtain ⟨hs, ha⟩ := hs
  rcases Nat.lt_or_ge s a.length with hlt | hge
  · have hlt' : s < b.length := by omega
    have h0 : (s : Int) < (a.length : Int) := by omega
    have hw := wrap_s s (by omega)
    have hg : a[s]? = some a[s] := by simp [hlt]
    have hg' : b[s]? = some b[s] := by simp [hlt']
    by_cases he : a[s] = b[s]
    · left
      refine ⟨s + 1, ?_, ⟨hlt, by rw [take_s a s hlt, take_s b s hlt', ha, he]⟩, by omega⟩
      rw [← he] at hg'
      generalize a[s] = g at hg hg'
      simp [↓ev_loop, ev, evOps, evOp, wants, req, reqCall, inOf, evOpd, ofConst, ofCell, hands, Ann.mem, Env.get, Env.set, gives, handT, Op.operands, Call.operands, meet, putD, params, AV.strip, keepAt, lookN, Env.keep, binAV, intBinAV, headId, tidy, flagOp, nilConst, List.filterMap_cons, List.filterMap_nil, outOf, resAll, resOf, reifyR, reify, reifyP, clo, cloL, cloLL, cloEnv, loadBox, storeBox, buildElems, buildCells, int_beq, int_bne, evDraw, evOpsD, evOpD, meetD, numbered, newsOf, newsIn, footsOk, apartF, clash, prec, Region.binds, S, h0, hw, hg, hg']
    · right
      have hne : a ≠ b := by rintro rfl; exact he rfl
      generalize a[s] = g at hg he
      generalize b[s] = g' at hg' he
      simp [↓ev_loop, ev, evOps, evOp, wants, req, reqCall, inOf, evOpd, ofConst, ofCell, hands, Ann.mem, Env.get, Env.set, gives, handT, Op.operands, Call.operands, meet, putD, params, AV.strip, keepAt, lookN, Env.keep, binAV, intBinAV, headId, tidy, flagOp, nilConst, List.filterMap_cons, List.filterMap_nil, outOf, resAll, resOf, reifyR, reify, reifyP, clo, cloL, cloLL, cloEnv, loadBox, storeBox, buildElems, buildCells, int_beq, int_bne, evDraw, evOpsD, evOpD, meetD, numbered, newsOf, newsIn, footsOk, apartF, clash, prec, Region.binds, S, h0, hw, hg, hg', beqP_ne he, hne]
  · right
    have h0 : ¬ (s : Int) < (a.length : Int) := by omega
    have hab2 : a = b := by rw [List.take_of_length_le hge, List.take_of_length_le (by omega)] at ha; exact ha
    subst hab2
    simp [↓ev_loop, ev, evOps, evOp, wants, req, reqCall, inOf, evOpd, ofConst, ofCell, hands, Ann.mem, Env.get, Env.set, gives, handT, Op.operands, Call.operands, meet, putD, params, AV.strip, keepAt, lookN, Env.keep, binAV, intBinAV, headId, tidy, flagOp, nilConst, List.filterMap_cons, List.filterMap_nil, outOf, resAll, resOf, reifyR, reify, reifyP, clo, cloL, cloLL, cloEnv, loadBox, storeBox, buildElems, buildCells, int_beq, int_bne, S, h0]
theorem eq48 (a b : List Step) (hl : a.length ≤ 4000000000000000000) (bs : List Nat) (H : List AO) : callD X 48 [S cStep a, S cStep b] bs H = some (.bool (beqP a b), H) := by
  rw [callD_eq]
  simp only [Xprim]
  unfold runBody
  simp only [XP, Try.func48, Xan48, Xok48]
  obtain ⟨c0, hc0⟩ : ∃ c, (loops (Try.f48.body.getD .skip))[0]? = some c := ⟨_, rfl⟩
  have hd0 := hc0
  simp only [Try.f48, loops, List.cons_append, List.nil_append, List.append_nil, List.getElem?_cons_zero, List.getElem?_cons_succ, Option.getD_some, Option.some.injEq] at hd0
  simp only [Try.f48]
  rw [hd0]
  by_cases hab : a.length = b.length
  · obtain ⟨x, e', H', h1, rfl, h2⟩ := lp48 a b (H.length :: bs) H c0 hc0 hl hab
    simp only [S, List.map_nil, Int.ofNat_eq_natCast, Int.natCast_zero, List.length_append, List.length_cons, List.length_nil, Nat.zero_add, Nat.reduceAdd] at h1
    (try simp only [hab] at h1)
    rcases h2 with ⟨rfl, rfl⟩ | ⟨rfl, h3, h4⟩
    · simp [↓ev_loop, ev, evOps, evOp, wants, req, reqCall, inOf, evOpd, ofConst, ofCell, hands, Ann.mem, Env.get, Env.set, gives, handT, Op.operands, Call.operands, meet, putD, params, AV.strip, keepAt, lookN, Env.keep, binAV, intBinAV, headId, tidy, flagOp, nilConst, List.filterMap_cons, List.filterMap_nil, outOf, resAll, resOf, reifyR, reify, reifyP, clo, cloL, cloLL, cloEnv, loadBox, storeBox, buildElems, buildCells, int_beq, int_bne, h1, S]
    · simp [↓ev_loop, ev, evOps, evOp, wants, req, reqCall, inOf, evOpd, ofConst, ofCell, hands, Ann.mem, Env.get, Env.set, gives, handT, Op.operands, Call.operands, meet, putD, params, AV.strip, keepAt, lookN, Env.keep, binAV, intBinAV, headId, tidy, flagOp, nilConst, List.filterMap_cons, List.filterMap_nil, outOf, resAll, resOf, reifyR, reify, reifyP, clo, cloL, cloLL, cloEnv, loadBox, storeBox, buildElems, buildCells, int_beq, int_bne, h1, h3, hab, h4, S]
  · have hne : a ≠ b := by rintro rfl; exact hab rfl
    have h0 : ¬ ((a.length : Int) = (b.length : Int)) := by omega
    simp [↓ev_loop, ev, evOps, evOp, wants, req, reqCall, inOf, evOpd, ofConst, ofCell, hands, Ann.mem, Env.get, Env.set, gives, handT, Op.operands, Call.operands, meet, putD, params, AV.strip, keepAt, lookN, Env.keep, binAV, intBinAV, headId, tidy, flagOp, nilConst, List.filterMap_cons, List.filterMap_nil, outOf, resAll, resOf, reifyR, reify, reifyP, clo, cloL, cloLL, cloEnv, loadBox, storeBox, buildElems, buildCells, int_beq, int_bne, hab, h0, hne, S]
end Go.Proofs.Ytlpilgnjlnepeaa.T
namespace Go.Proofs.Ytlpilgnjlnepeaa.T
open Go.VM Go.Proofs
set_option linter.unusedSimpArgs false
set_option maxHeartbeats 4000000
set_option maxRecDepth 10000

theorem lp49 (a b : List ByteArray) (bs : List Nat) (H : List AO) (c0 : Code) (hc0 : (loops (Try.f49.body.getD .skip))[0]? = some c0) (hl : a.length ≤ 4000000000000000000) (hab : a.length = b.length) :
    ∃ x e' H', lev Try.prog an49 (callD X) c0 bs ((fun s : Nat => [(0, S cStr a), (1, S cStr b), (5, I s)]) (0)) ((fun s : Nat => H) (0)) = some (x, e', H') ∧ (H' = H ∧ ((x = .exit 0 ∧ a = b) ∨ (x = .ret ∧ e'.get 4 = .bool false ∧ a ≠ b))) := by
  simp only [Try.f49, loops, List.cons_append, List.nil_append, List.append_nil, List.getElem?_cons_zero, List.getElem?_cons_succ, Option.getD_some, Option.some.injEq] at hc0
  refine lev_inv (σ := Nat) (fun s => [(0, S cStr a), (1, S cStr b), (5, I s)]) (fun s => H) (fun s => s ≤ a.length ∧ a.take s = b.take s) (fun s => a.length - s) (fun x e' H' => H' = H ∧ ((x = .exit 0 ∧ a = b) ∨ (x = .ret ∧ e'.get 4 = .bool false ∧ a ≠ b))) (0) ?_ ?_ ?_ ?_ ?_
  · simp
  · intro s hs; simp
  · intro s hs; simp [cloEnv, clo, S]
  · intro s hs; subst hc0; simp [keepAt, headId, lookN, Env.keep, Env.get]
  intro s hs
  subst hc0
  obtain ⟨hs, ha⟩ := hs
  rcases Nat.lt_or_ge s a.length with hlt | hge
  · have hlt' : s < b.length := by omega
    have h0 : (s : Int) < (a.length : Int) := by omega
    have hw := wrap_s s (by omega)
    have hg : a[s]? = some a[s] := by simp [hlt]
    have hg' : b[s]? = some b[s] := by simp [hlt']
    by_cases he : a[s] = b[s]
    · left
      refine ⟨s + 1, ?_, ⟨hlt, by rw [take_s a s hlt, take_s b s hlt', ha, he]⟩, by omega⟩
      rw [← he] at hg'
      generalize a[s] = g at hg hg'
      simp [↓ev_loop, ev, evOps, evOp, wants, req, reqCall, inOf, evOpd, ofConst, ofCell, hands, Ann.mem, Env.get, Env.set, gives, handT, Op.operands, Call.operands, meet, putD, params, AV.strip, keepAt, lookN, Env.keep, binAV, intBinAV, headId, tidy, flagOp, nilConst, List.filterMap_cons, List.filterMap_nil, outOf, resAll, resOf, reifyR, reify, reifyP, clo, cloL, cloLL, cloEnv, loadBox, storeBox, buildElems, buildCells, int_beq, int_bne, evDraw, evOpsD, evOpD, meetD, numbered, newsOf, newsIn, footsOk, apartF, clash, prec, Region.binds, S, h0, hw, hg, hg', strCmpAV, str_beq]
    · right
      have hne : a ≠ b := by rintro rfl; exact he rfl
      generalize a[s] = g at hg he
      generalize b[s] = g' at hg' he
      simp [↓ev_loop, ev, evOps, evOp, wants, req, reqCall, inOf, evOpd, ofConst, ofCell, hands, Ann.mem, Env.get, Env.set, gives, handT, Op.operands, Call.operands, meet, putD, params, AV.strip, keepAt, lookN, Env.keep, binAV, intBinAV, headId, tidy, flagOp, nilConst, List.filterMap_cons, List.filterMap_nil, outOf, resAll, resOf, reifyR, reify, reifyP, clo, cloL, cloLL, cloEnv, loadBox, storeBox, buildElems, buildCells, int_beq, int_bne, evDraw, evOpsD, evOpD, meetD, numbered, newsOf, newsIn, footsOk, apartF, clash, prec, Region.binds, S, h0, hw, hg, hg', beqP_ne he, hne, strCmpAV, str_beq]
  · right
    have h0 : ¬ (s : Int) < (a.length : Int) := by omega
    have hab2 : a = b := by rw [List.take_of_length_le hge, List.take_of_length_le (by omega)] at ha; exact ha
    subst hab2
    simp [↓ev_loop, ev, evOps, evOp, wants, req, reqCall, inOf, evOpd, ofConst, ofCell, hands, Ann.mem, Env.get, Env.set, gives, handT, Op.operands, Call.operands, meet, putD, params, AV.strip, keepAt, lookN, Env.keep, binAV, intBinAV, headId, tidy, flagOp, nilConst, List.filterMap_cons, List.filterMap_nil, outOf, resAll, resOf, reifyR, reify, reifyP, clo, cloL, cloLL, cloEnv, loadBox, storeBox, buildElems, buildCells, int_beq, int_bne, S, h0]
theorem eq49 (a b : List ByteArray) (hl : a.length ≤ 4000000000000000000) (bs : List Nat) (H : List AO) : callD X 49 [S cStr a, S cStr b] bs H = some (.bool (beqP a b), H) := by
  rw [callD_eq]
  simp only [Xprim]
  unfold runBody
  simp only [XP, Try.func49, Xan49, Xok49]
  obtain ⟨c0, hc0⟩ : ∃ c, (loops (Try.f49.body.getD .skip))[0]? = some c := ⟨_, rfl⟩
  have hd0 := hc0
  simp only [Try.f49, loops, List.cons_append, List.nil_append, List.append_nil, List.getElem?_cons_zero, List.getElem?_cons_succ, Option.getD_some, Option.some.injEq] at hd0
  simp only [Try.f49]
  rw [hd0]
  by_cases hab : a.length = b.length
  · obtain ⟨x, e', H', h1, rfl, h2⟩ := lp49 a b (H.length :: bs) H c0 hc0 hl hab
    simp only [S, List.map_nil, Int.ofNat_eq_natCast, Int.natCast_zero, List.length_append, List.length_cons, List.length_nil, Nat.zero_add, Nat.reduceAdd] at h1
    (try simp only [hab] at h1)
    rcases h2 with ⟨rfl, rfl⟩ | ⟨rfl, h3, h4⟩
    · simp [↓ev_loop, ev, evOps, evOp, wants, req, reqCall, inOf, evOpd, ofConst, ofCell, hands, Ann.mem, Env.get, Env.set, gives, handT, Op.operands, Call.operands, meet, putD, params, AV.strip, keepAt, lookN, Env.keep, binAV, intBinAV, headId, tidy, flagOp, nilConst, List.filterMap_cons, List.filterMap_nil, outOf, resAll, resOf, reifyR, reify, reifyP, clo, cloL, cloLL, cloEnv, loadBox, storeBox, buildElems, buildCells, int_beq, int_bne, h1, S]
    · simp [↓ev_loop, ev, evOps, evOp, wants, req, reqCall, inOf, evOpd, ofConst, ofCell, hands, Ann.mem, Env.get, Env.set, gives, handT, Op.operands, Call.operands, meet, putD, params, AV.strip, keepAt, lookN, Env.keep, binAV, intBinAV, headId, tidy, flagOp, nilConst, List.filterMap_cons, List.filterMap_nil, outOf, resAll, resOf, reifyR, reify, reifyP, clo, cloL, cloLL, cloEnv, loadBox, storeBox, buildElems, buildCells, int_beq, int_bne, h1, h3, hab, h4, S]
  · have hne : a ≠ b := by rintro rfl; exact hab rfl
    have h0 : ¬ ((a.length : Int) = (b.length : Int)) := by omega
    simp [↓ev_loop, ev, evOps, evOp, wants, req, reqCall, inOf, evOpd, ofConst, ofCell, hands, Ann.mem, Env.get, Env.set, gives, handT, Op.operands, Call.operands, meet, putD, params, AV.strip, keepAt, lookN, Env.keep, binAV, intBinAV, headId, tidy, flagOp, nilConst, List.filterMap_cons, List.filterMap_nil, outOf, resAll, resOf, reifyR, reify, reifyP, clo, cloL, cloLL, cloEnv, loadBox, storeBox, buildElems, buildCells, int_beq, int_bne, hab, h0, hne, S]

theorem lp59 (a b : List Word) (bs : List Nat) (H : List AO) (c0 : Code) (hc0 : (loops (Try.f59.body.getD .skip))[0]? = some c0) (hl : a.length ≤ 4000000000000000000) (hab : a.length = b.length) :
    ∃ x e' H', lev Try.prog an59 (callD X) c0 bs ((fun s : Nat => [(0, S cWord a), (1, S cWord b), (5, I s)]) (0)) ((fun s : Nat => H) (0)) = some (x, e', H') ∧ (H' = H ∧ ((x = .exit 0 ∧ a = b) ∨ (x = .ret ∧ e'.get 4 = .bool false ∧ a ≠ b))) := by
  simp only [Try.f59, loops, List.cons_append, List.nil_append, List.append_nil, List.getElem?_cons_zero, List.getElem?_cons_succ, Option.getD_some, Option.some.injEq] at hc0
  refine lev_inv (σ := Nat) (fun s => [(0, S cWord a), (1, S cWord b), (5, I s)]) (fun s => H) (fun s => s ≤ a.length ∧ a.take s = b.take s) (fun s => a.length - s) (fun x e' H' => H' = H ∧ ((x = .exit 0 ∧ a = b) ∨ (x = .ret ∧ e'.get 4 = .bool false ∧ a ≠ b))) (0) ?_ ?_ ?_ ?_ ?_
  · simp
  · intro s hs; simp
  · intro s hs; simp [cloEnv, clo, S]
  · intro s hs; subst hc0; simp [keepAt, headId, lookN, Env.keep, Env.get]
  intro s hs
  subst hc0
  obtain ⟨hs, ha⟩ := hs
  rcases Nat.lt_or_ge s a.length with hlt | hge
  · have hlt' : s < b.length := by omega
    have h0 : (s : Int) < (a.length : Int) := by omega
    have hw := wrap_s s (by omega)
    have hg : a[s]? = some a[s] := by simp [hlt]
    have hg' : b[s]? = some b[s] := by simp [hlt']
    by_cases he : a[s] = b[s]
    · left
      refine ⟨s + 1, ?_, ⟨hlt, by rw [take_s a s hlt, take_s b s hlt', ha, he]⟩, by omega⟩
      rw [← he] at hg'
      generalize a[s] = g at hg hg'
      simp [↓ev_loop, ev, evOps, evOp, wants, req, reqCall, inOf, evOpd, ofConst, ofCell, hands, Ann.mem, Env.get, Env.set, gives, handT, Op.operands, Call.operands, meet, putD, params, AV.strip, keepAt, lookN, Env.keep, binAV, intBinAV, headId, tidy, flagOp, nilConst, List.filterMap_cons, List.filterMap_nil, outOf, resAll, resOf, reifyR, reify, reifyP, clo, cloL, cloLL, cloEnv, loadBox, storeBox, buildElems, buildCells, int_beq, int_bne, evDraw, evOpsD, evOpD, meetD, numbered, newsOf, newsIn, footsOk, apartF, clash, prec, Region.binds, S, h0, hw, hg, hg']
    · right
      have hne : a ≠ b := by rintro rfl; exact he rfl
      generalize a[s] = g at hg he
      generalize b[s] = g' at hg' he
      simp [↓ev_loop, ev, evOps, evOp, wants, req, reqCall, inOf, evOpd, ofConst, ofCell, hands, Ann.mem, Env.get, Env.set, gives, handT, Op.operands, Call.operands, meet, putD, params, AV.strip, keepAt, lookN, Env.keep, binAV, intBinAV, headId, tidy, flagOp, nilConst, List.filterMap_cons, List.filterMap_nil, outOf, resAll, resOf, reifyR, reify, reifyP, clo, cloL, cloLL, cloEnv, loadBox, storeBox, buildElems, buildCells, int_beq, int_bne, evDraw, evOpsD, evOpD, meetD, numbered, newsOf, newsIn, footsOk, apartF, clash, prec, Region.binds, S, h0, hw, hg, hg', beqP_ne he, hne]
  · right
    have h0 : ¬ (s : Int) < (a.length : Int) := by omega
    have hab2 : a = b := by rw [List.take_of_length_le hge, List.take_of_length_le (by omega)] at ha; exact ha
    subst hab2
    simp [↓ev_loop, ev, evOps, evOp, wants, req, reqCall, inOf, evOpd, ofConst, ofCell, hands, Ann.mem, Env.get, Env.set, gives, handT, Op.operands, Call.operands, meet, putD, params, AV.strip, keepAt, lookN, Env.keep, binAV, intBinAV, headId, tidy, flagOp, nilConst, List.filterMap_cons, List.filterMap_nil, outOf, resAll, resOf, reifyR, reify, reifyP, clo, cloL, cloLL, cloEnv, loadBox, storeBox, buildElems, buildCells, int_beq, int_bne, S, h0]
theorem eq59 (a b : List Word) (hl : a.length ≤ 4000000000000000000) (bs : List Nat) (H : List AO) : callD X 59 [S cWord a, S cWord b] bs H = some (.bool (beqP a b), H) := by
  rw [callD_eq]
  simp only [Xprim]
  unfold runBody
  simp only [XP, Try.func59, Xan59, Xok59]
  obtain ⟨c0, hc0⟩ : ∃ c, (loops (Try.f59.body.getD .skip))[0]? = some c := ⟨_, rfl⟩
  have hd0 := hc0
  simp only [Try.f59, loops, List.cons_append, List.nil_append, List.append_nil, List.getElem?_cons_zero, List.getElem?_cons_succ, Option.getD_some, Option.some.injEq] at hd0
  simp only [Try.f59]
  rw [hd0]
  by_cases hab : a.length = b.length
  · obtain ⟨x, e', H', h1, rfl, h2⟩ := lp59 a b (H.length :: bs) H c0 hc0 hl hab
    simp only [S, List.map_nil, Int.ofNat_eq_natCast, Int.natCast_zero, List.length_append, List.length_cons, List.length_nil, Nat.zero_add, Nat.reduceAdd] at h1
    (try simp only [hab] at h1)
    rcases h2 with ⟨rfl, rfl⟩ | ⟨rfl, h3, h4⟩
    · simp [↓ev_loop, ev, evOps, evOp, wants, req, reqCall, inOf, evOpd, ofConst, ofCell, hands, Ann.mem, Env.get, Env.set, gives, handT, Op.operands, Call.operands, meet, putD, params, AV.strip, keepAt, lookN, Env.keep, binAV, intBinAV, headId, tidy, flagOp, nilConst, List.filterMap_cons, List.filterMap_nil, outOf, resAll, resOf, reifyR, reify, reifyP, clo, cloL, cloLL, cloEnv, loadBox, storeBox, buildElems, buildCells, int_beq, int_bne, h1, S]
    · simp [↓ev_loop, ev, evOps, evOp, wants, req, reqCall, inOf, evOpd, ofConst, ofCell, hands, Ann.mem, Env.get, Env.set, gives, handT, Op.operands, Call.operands, meet, putD, params, AV.strip, keepAt, lookN, Env.keep, binAV, intBinAV, headId, tidy, flagOp, nilConst, List.filterMap_cons, List.filterMap_nil, outOf, resAll, resOf, reifyR, reify, reifyP, clo, cloL, cloLL, cloEnv, loadBox, storeBox, buildElems, buildCells, int_beq, int_bne, h1, h3, hab, h4, S]
  · have hne : a ≠ b := by rintro rfl; exact hab rfl
    have h0 : ¬ ((a.length : Int) = (b.length : Int)) := by omega
    simp [↓ev_loop, ev, evOps, evOp, wants, req, reqCall, inOf, evOpd, ofConst, ofCell, hands, Ann.mem, Env.get, Env.set, gives, handT, Op.operands, Call.operands, meet, putD, params, AV.strip, keepAt, lookN, Env.keep, binAV, intBinAV, headId, tidy, flagOp, nilConst, List.filterMap_cons, List.filterMap_nil, outOf, resAll, resOf, reifyR, reify, reifyP, clo, cloL, cloLL, cloEnv, loadBox, storeBox, buildElems, buildCells, int_beq, int_bne, hab, h0, hne, S]

theorem lp65 (a b : List Step) (bs : List Nat) (H : List AO) (c0 : Code) (hc0 : (loops (Try.f65.body.getD .skip))[0]? = some c0) (hl : a.length ≤ 4000000000000000000) (hab : a.length = b.length) :
    ∃ x e' H', lev Try.prog an65 (callD X) c0 bs ((fun s : Nat => [(0, S cStep a), (1, S cStep b), (12, I a.length), (13, I s)]) (0)) ((fun s : Nat => H) (0)) = some (x, e', H') ∧ (H' = H ∧ ((x = .exit 0 ∧ a = b) ∨ (x = .ret ∧ e'.get 4 = .bool false ∧ a ≠ b))) := by
  simp only [Try.f65, loops, List.cons_append, List.nil_append, List.append_nil, List.getElem?_cons_zero, List.getElem?_cons_succ, Option.getD_some, Option.some.injEq] at hc0
  refine lev_inv (σ := Nat) (fun s => [(0, S cStep a), (1, S cStep b), (12, I a.length), (13, I s)]) (fun s => H) (fun s => s ≤ a.length ∧ a.take s = b.take s) (fun s => a.length - s) (fun x e' H' => H' = H ∧ ((x = .exit 0 ∧ a = b) ∨ (x = .ret ∧ e'.get 4 = .bool false ∧ a ≠ b))) (0) ?_ ?_ ?_ ?_ ?_
  · simp
  · intro s hs; simp
  · intro s hs; simp [cloEnv, clo, S]
  · intro s hs; subst hc0; simp [keepAt, headId, lookN, Env.keep, Env.get]
  intro s hs
  subst hc0
  obtain ⟨hs, ha⟩ := hs
  rcases Nat.lt_or_ge s a.length with hlt | hge
  · have hlt' : s < b.length := by omega
    have h0 : (s : Int) < (a.length : Int) := by omega
    have hw := wrap_s s (by omega)
    have hg : a[s]? = some a[s] := by simp [hlt]
    have hg' : b[s]? = some b[s] := by simp [hlt']
    by_cases he : a[s] = b[s]
    · left
      refine ⟨s + 1, ?_, ⟨hlt, by rw [take_s a s hlt, take_s b s hlt', ha, he]⟩, by omega⟩
      rw [← he] at hg'
      generalize a[s] = g at hg hg'
      simp [↓ev_loop, ev, evOps, evOp, wants, req, reqCall, inOf, evOpd, ofConst, ofCell, hands, Ann.mem, Env.get, Env.set, gives, handT, Op.operands, Call.operands, meet, putD, params, AV.strip, keepAt, lookN, Env.keep, binAV, intBinAV, headId, tidy, flagOp, nilConst, List.filterMap_cons, List.filterMap_nil, outOf, resAll, resOf, reifyR, reify, reifyP, clo, cloL, cloLL, cloEnv, loadBox, storeBox, buildElems, buildCells, int_beq, int_bne, evDraw, evOpsD, evOpD, meetD, numbered, newsOf, newsIn, footsOk, apartF, clash, prec, Region.binds, S, h0, hw, hg, hg']
    · right
      have hne : a ≠ b := by rintro rfl; exact he rfl
      generalize a[s] = g at hg he
      generalize b[s] = g' at hg' he
      simp [↓ev_loop, ev, evOps, evOp, wants, req, reqCall, inOf, evOpd, ofConst, ofCell, hands, Ann.mem, Env.get, Env.set, gives, handT, Op.operands, Call.operands, meet, putD, params, AV.strip, keepAt, lookN, Env.keep, binAV, intBinAV, headId, tidy, flagOp, nilConst, List.filterMap_cons, List.filterMap_nil, outOf, resAll, resOf, reifyR, reify, reifyP, clo, cloL, cloLL, cloEnv, loadBox, storeBox, buildElems, buildCells, int_beq, int_bne, evDraw, evOpsD, evOpD, meetD, numbered, newsOf, newsIn, footsOk, apartF, clash, prec, Region.binds, S, h0, hw, hg, hg', beqP_ne he, hne]
  · right
    have h0 : ¬ (s : Int) < (a.length : Int) := by omega
    have hab2 : a = b := by rw [List.take_of_length_le hge, List.take_of_length_le (by omega)] at ha; exact ha
    subst hab2
    simp [↓ev_loop, ev, evOps, evOp, wants, req, reqCall, inOf, evOpd, ofConst, ofCell, hands, Ann.mem, Env.get, Env.set, gives, handT, Op.operands, Call.operands, meet, putD, params, AV.strip, keepAt, lookN, Env.keep, binAV, intBinAV, headId, tidy, flagOp, nilConst, List.filterMap_cons, List.filterMap_nil, outOf, resAll, resOf, reifyR, reify, reifyP, clo, cloL, cloLL, cloEnv, loadBox, storeBox, buildElems, buildCells, int_beq, int_bne, S, h0]
theorem eq65 (a b : List Step) (hl : a.length ≤ 4000000000000000000) (bs : List Nat) (H : List AO) : callD X 65 [S cStep a, S cStep b] bs H = some (.bool (beqP a b), H) := by
  rw [callD_eq]
  simp only [Xprim]
  unfold runBody
  simp only [XP, Try.func65, Xan65, Xok65]
  obtain ⟨c0, hc0⟩ : ∃ c, (loops (Try.f65.body.getD .skip))[0]? = some c := ⟨_, rfl⟩
  have hd0 := hc0
  simp only [Try.f65, loops, List.cons_append, List.nil_append, List.append_nil, List.getElem?_cons_zero, List.getElem?_cons_succ, Option.getD_some, Option.some.injEq] at hd0
  simp only [Try.f65]
  rw [hd0]
  by_cases hab : a.length = b.length
  · obtain ⟨x, e', H', h1, rfl, h2⟩ := lp65 a b (H.length :: bs) H c0 hc0 hl hab
    simp only [S, List.map_nil, Int.ofNat_eq_natCast, Int.natCast_zero, List.length_append, List.length_cons, List.length_nil, Nat.zero_add, Nat.reduceAdd] at h1
    (try simp only [hab] at h1)
    rcases h2 with ⟨rfl, rfl⟩ | ⟨rfl, h3, h4⟩
    · simp [↓ev_loop, ev, evOps, evOp, wants, req, reqCall, inOf, evOpd, ofConst, ofCell, hands, Ann.mem, Env.get, Env.set, gives, handT, Op.operands, Call.operands, meet, putD, params, AV.strip, keepAt, lookN, Env.keep, binAV, intBinAV, headId, tidy, flagOp, nilConst, List.filterMap_cons, List.filterMap_nil, outOf, resAll, resOf, reifyR, reify, reifyP, clo, cloL, cloLL, cloEnv, loadBox, storeBox, buildElems, buildCells, int_beq, int_bne, h1, S]
    · simp [↓ev_loop, ev, evOps, evOp, wants, req, reqCall, inOf, evOpd, ofConst, ofCell, hands, Ann.mem, Env.get, Env.set, gives, handT, Op.operands, Call.operands, meet, putD, params, AV.strip, keepAt, lookN, Env.keep, binAV, intBinAV, headId, tidy, flagOp, nilConst, List.filterMap_cons, List.filterMap_nil, outOf, resAll, resOf, reifyR, reify, reifyP, clo, cloL, cloLL, cloEnv, loadBox, storeBox, buildElems, buildCells, int_beq, int_bne, h1, h3, hab, h4, S]
  · have hne : a ≠ b := by rintro rfl; exact hab rfl
    have h0 : ¬ ((a.length : Int) = (b.length : Int)) := by omega
    simp [↓ev_loop, ev, evOps, evOp, wants, req, reqCall, inOf, evOpd, ofConst, ofCell, hands, Ann.mem, Env.get, Env.set, gives, handT, Op.operands, Call.operands, meet, putD, params, AV.strip, keepAt, lookN, Env.keep, binAV, intBinAV, headId, tidy, flagOp, nilConst, List.filterMap_cons, List.filterMap_nil, outOf, resAll, resOf, reifyR, reify, reifyP, clo, cloL, cloLL, cloEnv, loadBox, storeBox, buildElems, buildCells, int_beq, int_bne, hab, h0, hne, S]

theorem lp66 (a b : List ByteArray) (bs : List Nat) (H : List AO) (c0 : Code) (hc0 : (loops (Try.f66.body.getD .skip))[0]? = some c0) (hl : a.length ≤ 4000000000000000000) (hab : a.length = b.length) :
    ∃ x e' H', lev Try.prog an66 (callD X) c0 bs ((fun s : Nat => [(0, S cStr a), (1, S cStr b), (12, I a.length), (13, I s)]) (0)) ((fun s : Nat => H) (0)) = some (x, e', H') ∧ (H' = H ∧ ((x = .exit 0 ∧ a = b) ∨ (x = .ret ∧ e'.get 4 = .bool false ∧ a ≠ b))) := by
  simp only [Try.f66, loops, List.cons_append, List.nil_append, List.append_nil, List.getElem?_cons_zero, List.getElem?_cons_succ, Option.getD_some, Option.some.injEq] at hc0
  refine lev_inv (σ := Nat) (fun s => [(0, S cStr a), (1, S cStr b), (12, I a.length), (13, I s)]) (fun s => H) (fun s => s ≤ a.length ∧ a.take s = b.take s) (fun s => a.length - s) (fun x e' H' => H' = H ∧ ((x = .exit 0 ∧ a = b) ∨ (x = .ret ∧ e'.get 4 = .bool false ∧ a ≠ b))) (0) ?_ ?_ ?_ ?_ ?_
  · simp
  · intro s hs; simp
  · intro s hs; simp [cloEnv, clo, S]
  · intro s hs; subst hc0; simp [keepAt, headId, lookN, Env.keep, Env.get]
  intro s hs
  subst hc0
  obtain ⟨hs, ha⟩ := hs
  rcases Nat.lt_or_ge s a.length with hlt | hge
  · have hlt' : s < b.length := by omega
    have h0 : (s : Int) < (a.length : Int) := by omega
    have hw := wrap_s s (by omega)
    have hg : a[s]? = some a[s] := by simp [hlt]
    have hg' : b[s]? = some b[s] := by simp [hlt']
    by_cases he : a[s] = b[s]
    · left
      refine ⟨s + 1, ?_, ⟨hlt, by rw [take_s a s hlt, take_s b s hlt', ha, he]⟩, by omega⟩
      rw [← he] at hg'
      generalize a[s] = g at hg hg'
      simp [↓ev_loop, ev, evOps, evOp, wants, req, reqCall, inOf, evOpd, ofConst, ofCell, hands, Ann.mem, Env.get, Env.set, gives, handT, Op.operands, Call.operands, meet, putD, params, AV.strip, keepAt, lookN, Env.keep, binAV, intBinAV, headId, tidy, flagOp, nilConst, List.filterMap_cons, List.filterMap_nil, outOf, resAll, resOf, reifyR, reify, reifyP, clo, cloL, cloLL, cloEnv, loadBox, storeBox, buildElems, buildCells, int_beq, int_bne, evDraw, evOpsD, evOpD, meetD, numbered, newsOf, newsIn, footsOk, apartF, clash, prec, Region.binds, S, h0, hw, hg, hg', strCmpAV, str_beq]
    · right
      have hne : a ≠ b := by rintro rfl; exact he rfl
      generalize a[s] = g at hg he
      generalize b[s] = g' at hg' he
      simp [↓ev_loop, ev, evOps, evOp, wants, req, reqCall, inOf, evOpd, ofConst, ofCell, hands, Ann.mem, Env.get, Env.set, gives, handT, Op.operands, Call.operands, meet, putD, params, AV.strip, keepAt, lookN, Env.keep, binAV, intBinAV, headId, tidy, flagOp, nilConst, List.filterMap_cons, List.filterMap_nil, outOf, resAll, resOf, reifyR, reify, reifyP, clo, cloL, cloLL, cloEnv, loadBox, storeBox, buildElems, buildCells, int_beq, int_bne, evDraw, evOpsD, evOpD, meetD, numbered, newsOf, newsIn, footsOk, apartF, clash, prec, Region.binds, S, h0, hw, hg, hg', beqP_ne he, hne, strCmpAV, str_beq]
  · right
    have h0 : ¬ (s : Int) < (a.length : Int) := by omega
    have hab2 : a = b := by rw [List.take_of_length_le hge, List.take_of_length_le (by omega)] at ha; exact ha
    subst hab2
    simp [↓ev_loop, ev, evOps, evOp, wants, req, reqCall, inOf, evOpd, ofConst, ofCell, hands, Ann.mem, Env.get, Env.set, gives, handT, Op.operands, Call.operands, meet, putD, params, AV.strip, keepAt, lookN, Env.keep, binAV, intBinAV, headId, tidy, flagOp, nilConst, List.filterMap_cons, List.filterMap_nil, outOf, resAll, resOf, reifyR, reify, reifyP, clo, cloL, cloLL, cloEnv, loadBox, storeBox, buildElems, buildCells, int_beq, int_bne, S, h0]
theorem eq66 (a b : List ByteArray) (hl : a.length ≤ 4000000000000000000) (bs : List Nat) (H : List AO) : callD X 66 [S cStr a, S cStr b] bs H = some (.bool (beqP a b), H) := by
  rw [callD_eq]
  simp only [Xprim]
  unfold runBody
  simp only [XP, Try.func66, Xan66, Xok66]
  obtain ⟨c0, hc0⟩ : ∃ c, (loops (Try.f66.body.getD .skip))[0]? = some c := ⟨_, rfl⟩
  have hd0 := hc0
  simp only [Try.f66, loops, List.cons_append, List.nil_append, List.append_nil, List.getElem?_cons_zero, List.getElem?_cons_succ, Option.getD_some, Option.some.injEq] at hd0
  simp only [Try.f66]
  rw [hd0]
  by_cases hab : a.length = b.length
  · obtain ⟨x, e', H', h1, rfl, h2⟩ := lp66 a b (H.length :: bs) H c0 hc0 hl hab
    simp only [S, List.map_nil, Int.ofNat_eq_natCast, Int.natCast_zero, List.length_append, List.length_cons, List.length_nil, Nat.zero_add, Nat.reduceAdd] at h1
    (try simp only [hab] at h1)
    rcases h2 with ⟨rfl, rfl⟩ | ⟨rfl, h3, h4⟩
    · simp [↓ev_loop, ev, evOps, evOp, wants, req, reqCall, inOf, evOpd, ofConst, ofCell, hands, Ann.mem, Env.get, Env.set, gives, handT, Op.operands, Call.operands, meet, putD, params, AV.strip, keepAt, lookN, Env.keep, binAV, intBinAV, headId, tidy, flagOp, nilConst, List.filterMap_cons, List.filterMap_nil, outOf, resAll, resOf, reifyR, reify, reifyP, clo, cloL, cloLL, cloEnv, loadBox, storeBox, buildElems, buildCells, int_beq, int_bne, h1, S]
    · simp [↓ev_loop, ev, evOps, evOp, wants, req, reqCall, inOf, evOpd, ofConst, ofCell, hands, Ann.mem, Env.get, Env.set, gives, handT, Op.operands, Call.operands, meet, putD, params, AV.strip, keepAt, lookN, Env.keep, binAV, intBinAV, headId, tidy, flagOp, nilConst, List.filterMap_cons, List.filterMap_nil, outOf, resAll, resOf, reifyR, reify, reifyP, clo, cloL, cloLL, cloEnv, loadBox, storeBox, buildElems, buildCells, int_beq, int_bne, h1, h3, hab, h4, S]
  · have hne : a ≠ b := by rintro rfl; exact hab rfl
    have h0 : ¬ ((a.length : Int) = (b.length : Int)) := by omega
    simp [↓ev_loop, ev, evOps, evOp, wants, req, reqCall, inOf, evOpd, ofConst, ofCell, hands, Ann.mem, Env.get, Env.set, gives, handT, Op.operands, Call.operands, meet, putD, params, AV.strip, keepAt, lookN, Env.keep, binAV, intBinAV, headId, tidy, flagOp, nilConst, List.filterMap_cons, List.filterMap_nil, outOf, resAll, resOf, reifyR, reify, reifyP, clo, cloL, cloLL, cloEnv, loadBox, storeBox, buildElems, buildCells, int_beq, int_bne, hab, h0, hne, S]

theorem lp75 (a b : List Word) (bs : List Nat) (H : List AO) (c0 : Code) (hc0 : (loops (Try.f75.body.getD .skip))[0]? = some c0) (hl : a.length ≤ 4000000000000000000) (hab : a.length = b.length) :
    ∃ x e' H', lev Try.prog an75 (callD X) c0 bs ((fun s : Nat => [(0, S cWord a), (1, S cWord b), (12, I a.length), (13, I s)]) (0)) ((fun s : Nat => H) (0)) = some (x, e', H') ∧ (H' = H ∧ ((x = .exit 0 ∧ a = b) ∨ (x = .ret ∧ e'.get 4 = .bool false ∧ a ≠ b))) := by
  simp only [Try.f75, loops, List.cons_append, List.nil_append, List.append_nil, List.getElem?_cons_zero, List.getElem?_cons_succ, Option.getD_some, Option.some.injEq] at hc0
  refine lev_inv (σ := Nat) (fun s => [(0, S cWord a), (1, S cWord b), (12, I a.length), (13, I s)]) (fun s => H) (fun s => s ≤ a.length ∧ a.take s = b.take s) (fun s => a.length - s) (fun x e' H' => H' = H ∧ ((x = .exit 0 ∧ a = b) ∨ (x = .ret ∧ e'.get 4 = .bool false ∧ a ≠ b))) (0) ?_ ?_ ?_ ?_ ?_
  · simp
  · intro s hs; simp
  · intro s hs; simp [cloEnv, clo, S]
  · intro s hs; subst hc0; simp [keepAt, headId, lookN, Env.keep, Env.get]
  intro s hs
  subst hc0
  obtain ⟨hs, ha⟩ := hs
  rcases Nat.lt_or_ge s a.length with hlt | hge
  · have hlt' : s < b.length := by omega
    have h0 : (s : Int) < (a.length : Int) := by omega
    have hw := wrap_s s (by omega)
    have hg : a[s]? = some a[s] := by simp [hlt]
    have hg' : b[s]? = some b[s] := by simp [hlt']
    by_cases he : a[s] = b[s]
    · left
      refine ⟨s + 1, ?_, ⟨hlt, by rw [take_s a s hlt, take_s b s hlt', ha, he]⟩, by omega⟩
      rw [← he] at hg'
      generalize a[s] = g at hg hg'
      simp [↓ev_loop, ev, evOps, evOp, wants, req, reqCall, inOf, evOpd, ofConst, ofCell, hands, Ann.mem, Env.get, Env.set, gives, handT, Op.operands, Call.operands, meet, putD, params, AV.strip, keepAt, lookN, Env.keep, binAV, intBinAV, headId, tidy, flagOp, nilConst, List.filterMap_cons, List.filterMap_nil, outOf, resAll, resOf, reifyR, reify, reifyP, clo, cloL, cloLL, cloEnv, loadBox, storeBox, buildElems, buildCells, int_beq, int_bne, evDraw, evOpsD, evOpD, meetD, numbered, newsOf, newsIn, footsOk, apartF, clash, prec, Region.binds, S, h0, hw, hg, hg']
    · right
      have hne : a ≠ b := by rintro rfl; exact he rfl
      generalize a[s] = g at hg he
      generalize b[s] = g' at hg' he
      simp [↓ev_loop, ev, evOps, evOp, wants, req, reqCall, inOf, evOpd, ofConst, ofCell, hands, Ann.mem, Env.get, Env.set, gives, handT, Op.operands, Call.operands, meet, putD, params, AV.strip, keepAt, lookN, Env.keep, binAV, intBinAV, headId, tidy, flagOp, nilConst, List.filterMap_cons, List.filterMap_nil, outOf, resAll, resOf, reifyR, reify, reifyP, clo, cloL, cloLL, cloEnv, loadBox, storeBox, buildElems, buildCells, int_beq, int_bne, evDraw, evOpsD, evOpD, meetD, numbered, newsOf, newsIn, footsOk, apartF, clash, prec, Region.binds, S, h0, hw, hg, hg', beqP_ne he, hne]
  · right
    have h0 : ¬ (s : Int) < (a.length : Int) := by omega
    have hab2 : a = b := by rw [List.take_of_length_le hge, List.take_of_length_le (by omega)] at ha; exact ha
    subst hab2
    simp [↓ev_loop, ev, evOps, evOp, wants, req, reqCall, inOf, evOpd, ofConst, ofCell, hands, Ann.mem, Env.get, Env.set, gives, handT, Op.operands, Call.operands, meet, putD, params, AV.strip, keepAt, lookN, Env.keep, binAV, intBinAV, headId, tidy, flagOp, nilConst, List.filterMap_cons, List.filterMap_nil, outOf, resAll, resOf, reifyR, reify, reifyP, clo, cloL, cloLL, cloEnv, loadBox, storeBox, buildElems, buildCells, int_beq, int_bne, S, h0]
theorem eq75 (a b : List Word) (hl : a.length ≤ 4000000000000000000) (bs : List Nat) (H : List AO) : callD X 75 [S cWord a, S cWord b] bs H = some (.bool (beqP a b), H) := by
  rw [callD_eq]
  simp only [Xprim]
  unfold runBody
  simp only [XP, Try.func75, Xan75, Xok75]
  obtain ⟨c0, hc0⟩ : ∃ c, (loops (Try.f75.body.getD .skip))[0]? = some c := ⟨_, rfl⟩
  have hd0 := hc0
  simp only [Try.f75, loops, List.cons_append, List.nil_append, List.append_nil, List.getElem?_cons_zero, List.getElem?_cons_succ, Option.getD_some, Option.some.injEq] at hd0
  simp only [Try.f75]
  rw [hd0]
  by_cases hab : a.length = b.length
  · obtain ⟨x, e', H', h1, rfl, h2⟩ := lp75 a b (H.length :: bs) H c0 hc0 hl hab
    simp only [S, List.map_nil, Int.ofNat_eq_natCast, Int.natCast_zero, List.length_append, List.length_cons, List.length_nil, Nat.zero_add, Nat.reduceAdd] at h1
    (try simp only [hab] at h1)
    rcases h2 with ⟨rfl, rfl⟩ | ⟨rfl, h3, h4⟩
    · simp [↓ev_loop, ev, evOps, evOp, wants, req, reqCall, inOf, evOpd, ofConst, ofCell, hands, Ann.mem, Env.get, Env.set, gives, handT, Op.operands, Call.operands, meet, putD, params, AV.strip, keepAt, lookN, Env.keep, binAV, intBinAV, headId, tidy, flagOp, nilConst, List.filterMap_cons, List.filterMap_nil, outOf, resAll, resOf, reifyR, reify, reifyP, clo, cloL, cloLL, cloEnv, loadBox, storeBox, buildElems, buildCells, int_beq, int_bne, h1, S]
    · simp [↓ev_loop, ev, evOps, evOp, wants, req, reqCall, inOf, evOpd, ofConst, ofCell, hands, Ann.mem, Env.get, Env.set, gives, handT, Op.operands, Call.operands, meet, putD, params, AV.strip, keepAt, lookN, Env.keep, binAV, intBinAV, headId, tidy, flagOp, nilConst, List.filterMap_cons, List.filterMap_nil, outOf, resAll, resOf, reifyR, reify, reifyP, clo, cloL, cloLL, cloEnv, loadBox, storeBox, buildElems, buildCells, int_beq, int_bne, h1, h3, hab, h4, S]
  · have hne : a ≠ b := by rintro rfl; exact hab rfl
    have h0 : ¬ ((a.length : Int) = (b.length : Int)) := by omega
    simp [↓ev_loop, ev, evOps, evOp, wants, req, reqCall, inOf, evOpd, ofConst, ofCell, hands, Ann.mem, Env.get, Env.set, gives, handT, Op.operands, Call.operands, meet, putD, params, AV.strip, keepAt, lookN, Env.keep, binAV, intBinAV, headId, tidy, flagOp, nilConst, List.filterMap_cons, List.filterMap_nil, outOf, resAll, resOf, reifyR, reify, reifyP, clo, cloL, cloLL, cloEnv, loadBox, storeBox, buildElems, buildCells, int_beq, int_bne, hab, h0, hne, S]
end Go.Proofs.Ytlpilgnjlnepeaa.T
namespace Go.Proofs.Ytlpilgnjlnepeaa.T
open Go.VM Go.Proofs
set_option linter.unusedSimpArgs false
set_option maxHeartbeats 16000000
set_option maxRecDepth 10000
/-! the sizes of rows -/
mutual
def wfU : Unit → Prop
  | .mk _ _ _ head words kids => head.length ≤ 4000000000000000000 ∧ words.length ≤ 4000000000000000000 ∧ kids.length ≤ 4000000000000000000 ∧ wfUs kids
def wfUs : List Unit → Prop
  | [] => True
  | x :: xs => wfU x ∧ wfUs xs
end
theorem wfUs_iff (xs : List Unit) : wfUs xs ↔ ∀ x ∈ xs, wfU x := by induction xs <;> simp_all [wfUs]
theorem wfU_eq (u : Unit) : wfU u ↔ u.head.length ≤ 4000000000000000000 ∧ u.words.length ≤ 4000000000000000000 ∧ u.kids.length ≤ 4000000000000000000 ∧ ∀ x ∈ u.kids, wfU x := by
  cases u; simp [wfU, wfUs_iff, Unit.head, Unit.words, Unit.kids]
mutual
def wfI : Item → Prop
  | .mk _ at_ to_ _ _ u old new _ _ _ _ _ _ _ by_ => at_.length ≤ 4000000000000000000 ∧ to_.length ≤ 4000000000000000000 ∧ old.length ≤ 4000000000000000000 ∧ new.length ≤ 4000000000000000000 ∧ wfU u ∧ by_.length ≤ 4000000000000000000 ∧ wfIs by_
def wfIs : List Item → Prop
  | [] => True
  | x :: xs => wfI x ∧ wfIs xs
end
theorem wfIs_iff (xs : List Item) : wfIs xs ↔ ∀ x ∈ xs, wfI x := by induction xs <;> simp_all [wfIs]
theorem wfI_eq (x : Item) : wfI x ↔ x.at_.length ≤ 4000000000000000000 ∧ x.to_.length ≤ 4000000000000000000 ∧ x.old.length ≤ 4000000000000000000 ∧ x.new.length ≤ 4000000000000000000 ∧ wfU x.unit ∧ x.by_.length ≤ 4000000000000000000 ∧ ∀ y ∈ x.by_, wfI y := by
  cases x; simp [wfI, wfIs_iff, Item.at_, Item.to_, Item.old, Item.new, Item.unit, Item.by_]
theorem size_kids {u x : Unit} (h : x ∈ u.kids) : SizeOf.sizeOf x < SizeOf.sizeOf u := by
  cases u; simp only [Unit.kids] at h; have := List.sizeOf_lt_of_mem h; simp; omega
theorem size_by {u x : Item} (h : x ∈ u.by_) : SizeOf.sizeOf x < SizeOf.sizeOf u := by
  cases u; simp only [Item.by_] at h; have := List.sizeOf_lt_of_mem h; simp; omega
theorem unit_ext {a b : Unit} (h1 : a.id = b.id) (h2 : a.kind = b.kind) (h3 : a.label = b.label) (h4 : a.head = b.head) (h5 : a.words = b.words) (h6 : a.kids = b.kids) : a = b := by
  cases a; cases b; simp_all [Unit.id, Unit.kind, Unit.label, Unit.head, Unit.words, Unit.kids]
theorem item_ext {a b : Item} (h1 : a.kind = b.kind) (h2 : a.where_ = b.where_) (h3 : a.nth = b.nth) (h4 : a.label = b.label) (h5 : a.for_ = b.for_) (h6 : a.start = b.start) (h7 : a.act = b.act) (h8 : a.item = b.item) (h9 : a.day = b.day) (h10 : a.event = b.event)
    (h11 : a.at_ = b.at_) (h12 : a.to_ = b.to_) (h13 : a.old = b.old) (h14 : a.new = b.new) (h15 : a.unit = b.unit) (h16 : a.by_ = b.by_) : a = b := by
  cases a; cases b; simp_all [Item.kind, Item.at_, Item.to_, Item.where_, Item.nth, Item.unit, Item.old, Item.new, Item.label, Item.for_, Item.start, Item.act, Item.item, Item.day, Item.event, Item.by_]
theorem lt_of_get {H : List AO} {p : Nat} {o : AO} (h : H[p]? = some o) : p < H.length := (List.getElem?_eq_some_iff.1 h).1

theorem lp50 (a b : Unit) (pa pb : Nat) (bs : List Nat) (H : List AO) (c0 : Code) (hc0 : (loops (Try.f50.body.getD .skip))[0]? = some c0) (hA : H[pa]? = some (.box (cUnit a))) (hB : H[pb]? = some (.box (cUnit b))) (hl : a.kids.length ≤ 4000000000000000000) (hab : a.kids.length = b.kids.length) (ih : ∀ x ∈ a.kids, ∀ y bs H, callD X 50 [.agg (cUnit x), .agg (cUnit y)] bs H = some (.bool (beqP x y), H)) :
    ∃ x e' H', lev Try.prog an50 (callD X) c0 bs ((fun s : Nat => [(2, .ptr pa 0), (3, .ptr pb 0), (5, I s)]) (0)) ((fun s : Nat => H) (0)) = some (x, e', H') ∧ (H' = H ∧ ((x = .exit 0 ∧ a.kids = b.kids) ∨ (x = .ret ∧ e'.get 4 = .bool false ∧ a.kids ≠ b.kids))) := by
  simp only [Try.f50, loops, List.cons_append, List.nil_append, List.append_nil, List.getElem?_cons_zero, List.getElem?_cons_succ, Option.getD_some, Option.some.injEq] at hc0
  refine lev_inv (σ := Nat) (fun s => [(2, .ptr pa 0), (3, .ptr pb 0), (5, I s)]) (fun s => H) (fun s => s ≤ a.kids.length ∧ a.kids.take s = b.kids.take s) (fun s => a.kids.length - s) (fun x e' H' => H' = H ∧ ((x = .exit 0 ∧ a.kids = b.kids) ∨ (x = .ret ∧ e'.get 4 = .bool false ∧ a.kids ≠ b.kids))) (0) ?_ ?_ ?_ ?_ ?_
  · simp
  · intro s hs; simp
  · intro s hs; simp [cloEnv, clo, lt_of_get hA, lt_of_get hB]
  · intro s hs; subst hc0; simp [keepAt, headId, lookN, Env.keep, Env.get]
  intro s hs
  subst hc0
  obtain ⟨hs, ha⟩ := hs
  have hpa := lt_of_get hA
  have hpb := lt_of_get hB
  rcases Nat.lt_or_ge s a.kids.length with hlt | hge
  · have hlt' : s < b.kids.length := by omega
    have h0 : (s : Int) < (a.kids.length : Int) := by omega
    have hw := wrap_s s (by omega)
    have hg : a.kids[s]? = some a.kids[s] := by simp [hlt]
    have hg' : b.kids[s]? = some b.kids[s] := by simp [hlt']
    have ih' := ih a.kids[s] (List.getElem_mem hlt) b.kids[s]
    by_cases he : a.kids[s] = b.kids[s]
    · left
      refine ⟨s + 1, ?_, ⟨hlt, by rw [take_s _ s hlt, take_s _ s hlt', ha, he]⟩, by omega⟩
      rw [← he] at hg' ih'
      generalize a.kids[s] = g at hg hg' ih'
      simp [↓ev_loop, ev, evOps, evOp, wants, req, reqCall, inOf, evOpd, ofConst, ofCell, hands, Ann.mem, Env.get, Env.set, gives, handT, Op.operands, Call.operands, meet, putD, params, AV.strip, keepAt, lookN, Env.keep, binAV, intBinAV, headId, tidy, flagOp, nilConst, List.filterMap_cons, List.filterMap_nil, outOf, resAll, resOf, reifyR, reify, reifyP, clo, cloL, cloLL, cloEnv, loadBox, storeBox, buildElems, buildCells, int_beq, int_bne, evDraw, evOpsD, evOpD, meetD, numbered, newsOf, newsIn, footsOk, apartF, clash, prec, Region.binds, h0, hw, hg, hg', hA, hB, ih', S]
    · right
      have hne : a.kids ≠ b.kids := by intro h; apply he; simp only [h]
      generalize a.kids[s] = g at hg he ih'
      generalize b.kids[s] = g' at hg' he ih'
      simp [↓ev_loop, ev, evOps, evOp, wants, req, reqCall, inOf, evOpd, ofConst, ofCell, hands, Ann.mem, Env.get, Env.set, gives, handT, Op.operands, Call.operands, meet, putD, params, AV.strip, keepAt, lookN, Env.keep, binAV, intBinAV, headId, tidy, flagOp, nilConst, List.filterMap_cons, List.filterMap_nil, outOf, resAll, resOf, reifyR, reify, reifyP, clo, cloL, cloLL, cloEnv, loadBox, storeBox, buildElems, buildCells, int_beq, int_bne, evDraw, evOpsD, evOpD, meetD, numbered, newsOf, newsIn, footsOk, apartF, clash, prec, Region.binds, h0, hw, hg, hg', hA, hB, beqP_ne he, ih', hne, S]
  · right
    have h0 : ¬ (s : Int) < (a.kids.length : Int) := by omega
    have hab2 : a.kids = b.kids := by rw [List.take_of_length_le hge, List.take_of_length_le (by omega)] at ha; exact ha
    simp [↓ev_loop, ev, evOps, evOp, wants, req, reqCall, inOf, evOpd, ofConst, ofCell, hands, Ann.mem, Env.get, Env.set, gives, handT, Op.operands, Call.operands, meet, putD, params, AV.strip, keepAt, lookN, Env.keep, binAV, intBinAV, headId, tidy, flagOp, nilConst, List.filterMap_cons, List.filterMap_nil, outOf, resAll, resOf, reifyR, reify, reifyP, clo, cloL, cloLL, cloEnv, loadBox, storeBox, buildElems, buildCells, int_beq, int_bne, h0, hA, ← hab2, S]

theorem eq50 : ∀ (n : Nat) (a b : Unit), SizeOf.sizeOf a < n → wfU a → ∀ bs H, callD X 50 [.agg (cUnit a), .agg (cUnit b)] bs H = some (.bool (beqP a b), H) := by
  intro n
  induction n with
  | zero => intro a b h; omega
  | succ n ih =>
   intro a b hn hw bs H
   have hwf := (wfU_eq a).1 hw
   obtain ⟨hhl, hwl, hkl, hwk⟩ := hwf
   have hr1 := fun (y : List Word) bs H => eq59 a.head y hhl bs H
   have hr2 := fun (y : List Word) bs H => eq59 a.words y hwl bs H
   simp only [S] at hr1 hr2
   have ih' : ∀ x ∈ a.kids, ∀ y bs H, callD X 50 [.agg (cUnit x), .agg (cUnit y)] bs H = some (.bool (beqP x y), H) := fun x hx y bs H => ih x y (by have := size_kids hx; omega) (hwk x hx) bs H
   rw [callD_eq]
   simp only [Xprim]
   unfold runBody
   simp only [XP, Try.func50, Xan50, Xok50]
   obtain ⟨c0, hc0⟩ : ∃ c, (loops (Try.f50.body.getD .skip))[0]? = some c := ⟨_, rfl⟩
   have hd0 := hc0
   simp only [Try.f50, loops, List.cons_append, List.nil_append, List.append_nil, List.getElem?_cons_zero, List.getElem?_cons_succ, Option.getD_some, Option.some.injEq] at hd0
   simp only [Try.f50]
   rw [hd0]
   by_cases h1 : a.id = b.id
   rotate_left
   · have hne : a ≠ b := by rintro rfl; exact h1 rfl
     skip
     simp [↓ev_loop, ev, evOps, evOp, wants, req, reqCall, inOf, evOpd, ofConst, ofCell, hands, Ann.mem, Env.get, Env.set, gives, handT, Op.operands, Call.operands, meet, putD, params, AV.strip, keepAt, lookN, Env.keep, binAV, intBinAV, headId, tidy, flagOp, nilConst, List.filterMap_cons, List.filterMap_nil, outOf, resAll, resOf, reifyR, reify, reifyP, clo, cloL, cloLL, cloEnv, loadBox, storeBox, buildElems, buildCells, int_beq, int_bne, evDraw, evOpsD, evOpD, meetD, numbered, newsOf, newsIn, footsOk, apartF, clash, prec, Region.binds, str_beq, strCmpAV, beqP_ne h1, h1, beqP_ne hne, hr1, hr2, S]
   have e1 := beqP_iff.2 h1
   by_cases h2 : a.kind = b.kind
   rotate_left
   · have hne : a ≠ b := by rintro rfl; exact h2 rfl
     skip
     simp [↓ev_loop, ev, evOps, evOp, wants, req, reqCall, inOf, evOpd, ofConst, ofCell, hands, Ann.mem, Env.get, Env.set, gives, handT, Op.operands, Call.operands, meet, putD, params, AV.strip, keepAt, lookN, Env.keep, binAV, intBinAV, headId, tidy, flagOp, nilConst, List.filterMap_cons, List.filterMap_nil, outOf, resAll, resOf, reifyR, reify, reifyP, clo, cloL, cloLL, cloEnv, loadBox, storeBox, buildElems, buildCells, int_beq, int_bne, evDraw, evOpsD, evOpD, meetD, numbered, newsOf, newsIn, footsOk, apartF, clash, prec, Region.binds, str_beq, strCmpAV, e1, beqP_ne h2, h2, beqP_ne hne, hr1, hr2, S]
   have e2 := beqP_iff.2 h2
   by_cases h3 : a.label = b.label
   rotate_left
   · have hne : a ≠ b := by rintro rfl; exact h3 rfl
     skip
     simp [↓ev_loop, ev, evOps, evOp, wants, req, reqCall, inOf, evOpd, ofConst, ofCell, hands, Ann.mem, Env.get, Env.set, gives, handT, Op.operands, Call.operands, meet, putD, params, AV.strip, keepAt, lookN, Env.keep, binAV, intBinAV, headId, tidy, flagOp, nilConst, List.filterMap_cons, List.filterMap_nil, outOf, resAll, resOf, reifyR, reify, reifyP, clo, cloL, cloLL, cloEnv, loadBox, storeBox, buildElems, buildCells, int_beq, int_bne, evDraw, evOpsD, evOpD, meetD, numbered, newsOf, newsIn, footsOk, apartF, clash, prec, Region.binds, str_beq, strCmpAV, e1, e2, h2, beqP_ne h3, h3, beqP_ne hne, hr1, hr2, S]
   have e3 := beqP_iff.2 h3
   by_cases h4 : a.head = b.head
   rotate_left
   · have hne : a ≠ b := by rintro rfl; exact h4 rfl
     skip
     simp [↓ev_loop, ev, evOps, evOp, wants, req, reqCall, inOf, evOpd, ofConst, ofCell, hands, Ann.mem, Env.get, Env.set, gives, handT, Op.operands, Call.operands, meet, putD, params, AV.strip, keepAt, lookN, Env.keep, binAV, intBinAV, headId, tidy, flagOp, nilConst, List.filterMap_cons, List.filterMap_nil, outOf, resAll, resOf, reifyR, reify, reifyP, clo, cloL, cloLL, cloEnv, loadBox, storeBox, buildElems, buildCells, int_beq, int_bne, evDraw, evOpsD, evOpD, meetD, numbered, newsOf, newsIn, footsOk, apartF, clash, prec, Region.binds, str_beq, strCmpAV, e1, e2, h2, e3, beqP_ne h4, h4, beqP_ne hne, hr1, hr2, S]
   have e4 := beqP_iff.2 h4
   by_cases h5 : a.words = b.words
   rotate_left
   · have hne : a ≠ b := by rintro rfl; exact h5 rfl
     skip
     simp [↓ev_loop, ev, evOps, evOp, wants, req, reqCall, inOf, evOpd, ofConst, ofCell, hands, Ann.mem, Env.get, Env.set, gives, handT, Op.operands, Call.operands, meet, putD, params, AV.strip, keepAt, lookN, Env.keep, binAV, intBinAV, headId, tidy, flagOp, nilConst, List.filterMap_cons, List.filterMap_nil, outOf, resAll, resOf, reifyR, reify, reifyP, clo, cloL, cloLL, cloEnv, loadBox, storeBox, buildElems, buildCells, int_beq, int_bne, evDraw, evOpsD, evOpD, meetD, numbered, newsOf, newsIn, footsOk, apartF, clash, prec, Region.binds, str_beq, strCmpAV, e1, e2, h2, e3, e4, beqP_ne h5, h5, beqP_ne hne, hr1, hr2, S]
   have e5 := beqP_iff.2 h5
   by_cases h6 : a.kids.length = b.kids.length
   rotate_left
   · have hne : a ≠ b := by rintro rfl; exact h6 rfl
     have hk : ¬ ((a.kids.length : Nat) : Int) = ((b.kids.length : Nat) : Int) := by omega
     simp [↓ev_loop, ev, evOps, evOp, wants, req, reqCall, inOf, evOpd, ofConst, ofCell, hands, Ann.mem, Env.get, Env.set, gives, handT, Op.operands, Call.operands, meet, putD, params, AV.strip, keepAt, lookN, Env.keep, binAV, intBinAV, headId, tidy, flagOp, nilConst, List.filterMap_cons, List.filterMap_nil, outOf, resAll, resOf, reifyR, reify, reifyP, clo, cloL, cloLL, cloEnv, loadBox, storeBox, buildElems, buildCells, int_beq, int_bne, evDraw, evOpsD, evOpD, meetD, numbered, newsOf, newsIn, footsOk, apartF, clash, prec, Region.binds, str_beq, strCmpAV, e1, e2, h2, e3, e4, e5, hk, beqP_ne hne, hr1, hr2, S]
   obtain ⟨x, e', H', hz, rfl, h2⟩ := lp50 a b H.length (H.length + 1) (H.length :: bs) (H ++ [.box (cUnit a), .box (cUnit b)]) c0 hc0 (by simp) (by simp) hkl h6 ih'
   simp only [S, List.map_nil, Int.ofNat_eq_natCast, Int.natCast_zero, List.length_append, List.length_cons, List.length_nil, Nat.zero_add, Nat.reduceAdd] at hz
   rcases h2 with ⟨rfl, hk⟩ | ⟨rfl, hf, hk⟩
   · have hab : a = b := unit_ext h1 h2 h3 h4 h5 hk
     subst hab
     simp [↓ev_loop, ev, evOps, evOp, wants, req, reqCall, inOf, evOpd, ofConst, ofCell, hands, Ann.mem, Env.get, Env.set, gives, handT, Op.operands, Call.operands, meet, putD, params, AV.strip, keepAt, lookN, Env.keep, binAV, intBinAV, headId, tidy, flagOp, nilConst, List.filterMap_cons, List.filterMap_nil, outOf, resAll, resOf, reifyR, reify, reifyP, clo, cloL, cloLL, cloEnv, loadBox, storeBox, buildElems, buildCells, int_beq, int_bne, evDraw, evOpsD, evOpD, meetD, numbered, newsOf, newsIn, footsOk, apartF, clash, prec, Region.binds, str_beq, strCmpAV, hz, hr1, hr2, S]
   · have hne : a ≠ b := by rintro rfl; exact hk rfl
     simp [↓ev_loop, ev, evOps, evOp, wants, req, reqCall, inOf, evOpd, ofConst, ofCell, hands, Ann.mem, Env.get, Env.set, gives, handT, Op.operands, Call.operands, meet, putD, params, AV.strip, keepAt, lookN, Env.keep, binAV, intBinAV, headId, tidy, flagOp, nilConst, List.filterMap_cons, List.filterMap_nil, outOf, resAll, resOf, reifyR, reify, reifyP, clo, cloL, cloLL, cloEnv, loadBox, storeBox, buildElems, buildCells, int_beq, int_bne, evDraw, evOpsD, evOpD, meetD, numbered, newsOf, newsIn, footsOk, apartF, clash, prec, Region.binds, str_beq, strCmpAV, hz, e1, e2, h2, e3, e4, e5, h6, hf, beqP_ne hne, hr1, hr2, S]
end Go.Proofs.Ytlpilgnjlnepeaa.T
namespace Go.Proofs.Ytlpilgnjlnepeaa.T
open Go.VM Go.Proofs
set_option linter.unusedSimpArgs false
set_option maxHeartbeats 16000000
set_option maxRecDepth 10000

theorem lp26 (a b : Item) (pa pb : Nat) (bs : List Nat) (H : List AO) (c0 : Code) (hc0 : (loops (Try.f26.body.getD .skip))[0]? = some c0) (hA : H[pa]? = some (.box (cItem a))) (hB : H[pb]? = some (.box (cItem b))) (hl : a.by_.length ≤ 4000000000000000000) (hab : a.by_.length = b.by_.length) (ih : ∀ x ∈ a.by_, ∀ y bs H, callD X 26 [.agg (cItem x), .agg (cItem y)] bs H = some (.bool (beqP x y), H)) :
    ∃ x e' H', lev Try.prog an26 (callD X) c0 bs ((fun s : Nat => [(2, .ptr pa 0), (3, .ptr pb 0), (5, I s)]) (0)) ((fun s : Nat => H) (0)) = some (x, e', H') ∧ (H' = H ∧ ((x = .exit 0 ∧ a.by_ = b.by_) ∨ (x = .ret ∧ e'.get 4 = .bool false ∧ a.by_ ≠ b.by_))) := by
  simp only [Try.f26, loops, List.cons_append, List.nil_append, List.append_nil, List.getElem?_cons_zero, List.getElem?_cons_succ, Option.getD_some, Option.some.injEq] at hc0
  refine lev_inv (σ := Nat) (fun s => [(2, .ptr pa 0), (3, .ptr pb 0), (5, I s)]) (fun s => H) (fun s => s ≤ a.by_.length ∧ a.by_.take s = b.by_.take s) (fun s => a.by_.length - s) (fun x e' H' => H' = H ∧ ((x = .exit 0 ∧ a.by_ = b.by_) ∨ (x = .ret ∧ e'.get 4 = .bool false ∧ a.by_ ≠ b.by_))) (0) ?_ ?_ ?_ ?_ ?_
  · simp
  · intro s hs; simp
  · intro s hs; simp [cloEnv, clo, lt_of_get hA, lt_of_get hB]
  · intro s hs; subst hc0; simp [keepAt, headId, lookN, Env.keep, Env.get]
  intro s hs
  subst hc0
  obtain ⟨hs, ha⟩ := hs
  have hpa := lt_of_get hA
  have hpb := lt_of_get hB
  rcases Nat.lt_or_ge s a.by_.length with hlt | hge
  · have hlt' : s < b.by_.length := by omega
    have h0 : (s : Int) < (a.by_.length : Int) := by omega
    have hw := wrap_s s (by omega)
    have hg : a.by_[s]? = some a.by_[s] := by simp [hlt]
    have hg' : b.by_[s]? = some b.by_[s] := by simp [hlt']
    have ih' := ih a.by_[s] (List.getElem_mem hlt) b.by_[s]
    by_cases he : a.by_[s] = b.by_[s]
    · left
      refine ⟨s + 1, ?_, ⟨hlt, by rw [take_s _ s hlt, take_s _ s hlt', ha, he]⟩, by omega⟩
      rw [← he] at hg' ih'
      generalize a.by_[s] = g at hg hg' ih'
      simp [↓ev_loop, ev, evOps, evOp, wants, req, reqCall, inOf, evOpd, ofConst, ofCell, hands, Ann.mem, Env.get, Env.set, gives, handT, Op.operands, Call.operands, meet, putD, params, AV.strip, keepAt, lookN, Env.keep, binAV, intBinAV, headId, tidy, flagOp, nilConst, List.filterMap_cons, List.filterMap_nil, outOf, resAll, resOf, reifyR, reify, reifyP, clo, cloL, cloLL, cloEnv, loadBox, storeBox, buildElems, buildCells, int_beq, int_bne, evDraw, evOpsD, evOpD, meetD, numbered, newsOf, newsIn, footsOk, apartF, clash, prec, Region.binds, h0, hw, hg, hg', hA, hB, ih', S]
    · right
      have hne : a.by_ ≠ b.by_ := by intro h; apply he; simp only [h]
      generalize a.by_[s] = g at hg he ih'
      generalize b.by_[s] = g' at hg' he ih'
      simp [↓ev_loop, ev, evOps, evOp, wants, req, reqCall, inOf, evOpd, ofConst, ofCell, hands, Ann.mem, Env.get, Env.set, gives, handT, Op.operands, Call.operands, meet, putD, params, AV.strip, keepAt, lookN, Env.keep, binAV, intBinAV, headId, tidy, flagOp, nilConst, List.filterMap_cons, List.filterMap_nil, outOf, resAll, resOf, reifyR, reify, reifyP, clo, cloL, cloLL, cloEnv, loadBox, storeBox, buildElems, buildCells, int_beq, int_bne, evDraw, evOpsD, evOpD, meetD, numbered, newsOf, newsIn, footsOk, apartF, clash, prec, Region.binds, h0, hw, hg, hg', hA, hB, beqP_ne he, ih', hne, S]
  · right
    have h0 : ¬ (s : Int) < (a.by_.length : Int) := by omega
    have hab2 : a.by_ = b.by_ := by rw [List.take_of_length_le hge, List.take_of_length_le (by omega)] at ha; exact ha
    simp [↓ev_loop, ev, evOps, evOp, wants, req, reqCall, inOf, evOpd, ofConst, ofCell, hands, Ann.mem, Env.get, Env.set, gives, handT, Op.operands, Call.operands, meet, putD, params, AV.strip, keepAt, lookN, Env.keep, binAV, intBinAV, headId, tidy, flagOp, nilConst, List.filterMap_cons, List.filterMap_nil, outOf, resAll, resOf, reifyR, reify, reifyP, clo, cloL, cloLL, cloEnv, loadBox, storeBox, buildElems, buildCells, int_beq, int_bne, h0, hA, ← hab2, S]

theorem eq26 : ∀ (n : Nat) (a b : Item), SizeOf.sizeOf a < n → wfI a → ∀ bs H, callD X 26 [.agg (cItem a), .agg (cItem b)] bs H = some (.bool (beqP a b), H) := by
  intro n
  induction n with
  | zero => intro a b h; omega
  | succ n ih =>
   intro a b hn hw bs H
   have hwf := (wfI_eq a).1 hw
   obtain ⟨ha1, ha2, ha3, ha4, ha5, hkl, hwk⟩ := hwf
   have hr1 := fun (y : List Step) bs H => eq48 a.at_ y ha1 bs H
   have hr2 := fun (y : List Step) bs H => eq48 a.to_ y ha2 bs H
   have hr3 := fun (y : List ByteArray) bs H => eq49 a.old y ha3 bs H
   have hr4 := fun (y : List ByteArray) bs H => eq49 a.new y ha4 bs H
   have hr5 := fun (y : Unit) bs H => eq50 _ a.unit y (Nat.lt_succ_self _) ha5 bs H
   simp only [S] at hr1 hr2 hr3 hr4
   have ih' : ∀ x ∈ a.by_, ∀ y bs H, callD X 26 [.agg (cItem x), .agg (cItem y)] bs H = some (.bool (beqP x y), H) := fun x hx y bs H => ih x y (by have := size_by hx; omega) (hwk x hx) bs H
   rw [callD_eq]
   simp only [Xprim]
   unfold runBody
   simp only [XP, Try.func26, Xan26, Xok26]
   obtain ⟨c0, hc0⟩ : ∃ c, (loops (Try.f26.body.getD .skip))[0]? = some c := ⟨_, rfl⟩
   have hd0 := hc0
   simp only [Try.f26, loops, List.cons_append, List.nil_append, List.append_nil, List.getElem?_cons_zero, List.getElem?_cons_succ, Option.getD_some, Option.some.injEq] at hd0
   simp only [Try.f26]
   rw [hd0]
   by_cases h1 : a.kind = b.kind
   rotate_left
   · have hne : a ≠ b := by rintro rfl; exact h1 rfl
     skip
     simp [↓ev_loop, ev, evOps, evOp, wants, req, reqCall, inOf, evOpd, ofConst, ofCell, hands, Ann.mem, Env.get, Env.set, gives, handT, Op.operands, Call.operands, meet, putD, params, AV.strip, keepAt, lookN, Env.keep, binAV, intBinAV, headId, tidy, flagOp, nilConst, List.filterMap_cons, List.filterMap_nil, outOf, resAll, resOf, reifyR, reify, reifyP, clo, cloL, cloLL, cloEnv, loadBox, storeBox, buildElems, buildCells, int_beq, int_bne, evDraw, evOpsD, evOpD, meetD, numbered, newsOf, newsIn, footsOk, apartF, clash, prec, Region.binds, str_beq, strCmpAV, beqP_ne h1, h1, beqP_ne hne, hr1, hr2, hr3, hr4, hr5, S]
   have e1 := beqP_iff.2 h1
   by_cases h2 : a.where_ = b.where_
   rotate_left
   · have hne : a ≠ b := by rintro rfl; exact h2 rfl
     skip
     simp [↓ev_loop, ev, evOps, evOp, wants, req, reqCall, inOf, evOpd, ofConst, ofCell, hands, Ann.mem, Env.get, Env.set, gives, handT, Op.operands, Call.operands, meet, putD, params, AV.strip, keepAt, lookN, Env.keep, binAV, intBinAV, headId, tidy, flagOp, nilConst, List.filterMap_cons, List.filterMap_nil, outOf, resAll, resOf, reifyR, reify, reifyP, clo, cloL, cloLL, cloEnv, loadBox, storeBox, buildElems, buildCells, int_beq, int_bne, evDraw, evOpsD, evOpD, meetD, numbered, newsOf, newsIn, footsOk, apartF, clash, prec, Region.binds, str_beq, strCmpAV, e1, h1, beqP_ne h2, h2, beqP_ne hne, hr1, hr2, hr3, hr4, hr5, S]
   have e2 := beqP_iff.2 h2
   by_cases h3 : a.nth = b.nth
   rotate_left
   · have hne : a ≠ b := by rintro rfl; exact h3 rfl
     skip
     simp [↓ev_loop, ev, evOps, evOp, wants, req, reqCall, inOf, evOpd, ofConst, ofCell, hands, Ann.mem, Env.get, Env.set, gives, handT, Op.operands, Call.operands, meet, putD, params, AV.strip, keepAt, lookN, Env.keep, binAV, intBinAV, headId, tidy, flagOp, nilConst, List.filterMap_cons, List.filterMap_nil, outOf, resAll, resOf, reifyR, reify, reifyP, clo, cloL, cloLL, cloEnv, loadBox, storeBox, buildElems, buildCells, int_beq, int_bne, evDraw, evOpsD, evOpD, meetD, numbered, newsOf, newsIn, footsOk, apartF, clash, prec, Region.binds, str_beq, strCmpAV, e1, h1, e2, h2, beqP_ne h3, h3, beqP_ne hne, hr1, hr2, hr3, hr4, hr5, S]
   have e3 := beqP_iff.2 h3
   by_cases h4 : a.label = b.label
   rotate_left
   · have hne : a ≠ b := by rintro rfl; exact h4 rfl
     skip
     simp [↓ev_loop, ev, evOps, evOp, wants, req, reqCall, inOf, evOpd, ofConst, ofCell, hands, Ann.mem, Env.get, Env.set, gives, handT, Op.operands, Call.operands, meet, putD, params, AV.strip, keepAt, lookN, Env.keep, binAV, intBinAV, headId, tidy, flagOp, nilConst, List.filterMap_cons, List.filterMap_nil, outOf, resAll, resOf, reifyR, reify, reifyP, clo, cloL, cloLL, cloEnv, loadBox, storeBox, buildElems, buildCells, int_beq, int_bne, evDraw, evOpsD, evOpD, meetD, numbered, newsOf, newsIn, footsOk, apartF, clash, prec, Region.binds, str_beq, strCmpAV, e1, h1, e2, h2, e3, h3, beqP_ne h4, h4, beqP_ne hne, hr1, hr2, hr3, hr4, hr5, S]
   have e4 := beqP_iff.2 h4
   by_cases h5 : a.for_ = b.for_
   rotate_left
   · have hne : a ≠ b := by rintro rfl; exact h5 rfl
     skip
     simp [↓ev_loop, ev, evOps, evOp, wants, req, reqCall, inOf, evOpd, ofConst, ofCell, hands, Ann.mem, Env.get, Env.set, gives, handT, Op.operands, Call.operands, meet, putD, params, AV.strip, keepAt, lookN, Env.keep, binAV, intBinAV, headId, tidy, flagOp, nilConst, List.filterMap_cons, List.filterMap_nil, outOf, resAll, resOf, reifyR, reify, reifyP, clo, cloL, cloLL, cloEnv, loadBox, storeBox, buildElems, buildCells, int_beq, int_bne, evDraw, evOpsD, evOpD, meetD, numbered, newsOf, newsIn, footsOk, apartF, clash, prec, Region.binds, str_beq, strCmpAV, e1, h1, e2, h2, e3, h3, e4, beqP_ne h5, h5, beqP_ne hne, hr1, hr2, hr3, hr4, hr5, S]
   have e5 := beqP_iff.2 h5
   by_cases h6 : a.start = b.start
   rotate_left
   · have hne : a ≠ b := by rintro rfl; exact h6 rfl
     skip
     simp [↓ev_loop, ev, evOps, evOp, wants, req, reqCall, inOf, evOpd, ofConst, ofCell, hands, Ann.mem, Env.get, Env.set, gives, handT, Op.operands, Call.operands, meet, putD, params, AV.strip, keepAt, lookN, Env.keep, binAV, intBinAV, headId, tidy, flagOp, nilConst, List.filterMap_cons, List.filterMap_nil, outOf, resAll, resOf, reifyR, reify, reifyP, clo, cloL, cloLL, cloEnv, loadBox, storeBox, buildElems, buildCells, int_beq, int_bne, evDraw, evOpsD, evOpD, meetD, numbered, newsOf, newsIn, footsOk, apartF, clash, prec, Region.binds, str_beq, strCmpAV, e1, h1, e2, h2, e3, h3, e4, e5, beqP_ne h6, h6, beqP_ne hne, hr1, hr2, hr3, hr4, hr5, S]
   have e6 := beqP_iff.2 h6
   by_cases h7 : a.act = b.act
   rotate_left
   · have hne : a ≠ b := by rintro rfl; exact h7 rfl
     skip
     simp [↓ev_loop, ev, evOps, evOp, wants, req, reqCall, inOf, evOpd, ofConst, ofCell, hands, Ann.mem, Env.get, Env.set, gives, handT, Op.operands, Call.operands, meet, putD, params, AV.strip, keepAt, lookN, Env.keep, binAV, intBinAV, headId, tidy, flagOp, nilConst, List.filterMap_cons, List.filterMap_nil, outOf, resAll, resOf, reifyR, reify, reifyP, clo, cloL, cloLL, cloEnv, loadBox, storeBox, buildElems, buildCells, int_beq, int_bne, evDraw, evOpsD, evOpD, meetD, numbered, newsOf, newsIn, footsOk, apartF, clash, prec, Region.binds, str_beq, strCmpAV, e1, h1, e2, h2, e3, h3, e4, e5, e6, beqP_ne h7, h7, beqP_ne hne, hr1, hr2, hr3, hr4, hr5, S]
   have e7 := beqP_iff.2 h7
   by_cases h8 : a.item = b.item
   rotate_left
   · have hne : a ≠ b := by rintro rfl; exact h8 rfl
     skip
     simp [↓ev_loop, ev, evOps, evOp, wants, req, reqCall, inOf, evOpd, ofConst, ofCell, hands, Ann.mem, Env.get, Env.set, gives, handT, Op.operands, Call.operands, meet, putD, params, AV.strip, keepAt, lookN, Env.keep, binAV, intBinAV, headId, tidy, flagOp, nilConst, List.filterMap_cons, List.filterMap_nil, outOf, resAll, resOf, reifyR, reify, reifyP, clo, cloL, cloLL, cloEnv, loadBox, storeBox, buildElems, buildCells, int_beq, int_bne, evDraw, evOpsD, evOpD, meetD, numbered, newsOf, newsIn, footsOk, apartF, clash, prec, Region.binds, str_beq, strCmpAV, e1, h1, e2, h2, e3, h3, e4, e5, e6, e7, h7, beqP_ne h8, h8, beqP_ne hne, hr1, hr2, hr3, hr4, hr5, S]
   have e8 := beqP_iff.2 h8
   by_cases h9 : a.day = b.day
   rotate_left
   · have hne : a ≠ b := by rintro rfl; exact h9 rfl
     skip
     simp [↓ev_loop, ev, evOps, evOp, wants, req, reqCall, inOf, evOpd, ofConst, ofCell, hands, Ann.mem, Env.get, Env.set, gives, handT, Op.operands, Call.operands, meet, putD, params, AV.strip, keepAt, lookN, Env.keep, binAV, intBinAV, headId, tidy, flagOp, nilConst, List.filterMap_cons, List.filterMap_nil, outOf, resAll, resOf, reifyR, reify, reifyP, clo, cloL, cloLL, cloEnv, loadBox, storeBox, buildElems, buildCells, int_beq, int_bne, evDraw, evOpsD, evOpD, meetD, numbered, newsOf, newsIn, footsOk, apartF, clash, prec, Region.binds, str_beq, strCmpAV, e1, h1, e2, h2, e3, h3, e4, e5, e6, e7, h7, e8, h8, beqP_ne h9, h9, beqP_ne hne, hr1, hr2, hr3, hr4, hr5, S]
   have e9 := beqP_iff.2 h9
   by_cases h10 : a.event = b.event
   rotate_left
   · have hne : a ≠ b := by rintro rfl; exact h10 rfl
     skip
     simp [↓ev_loop, ev, evOps, evOp, wants, req, reqCall, inOf, evOpd, ofConst, ofCell, hands, Ann.mem, Env.get, Env.set, gives, handT, Op.operands, Call.operands, meet, putD, params, AV.strip, keepAt, lookN, Env.keep, binAV, intBinAV, headId, tidy, flagOp, nilConst, List.filterMap_cons, List.filterMap_nil, outOf, resAll, resOf, reifyR, reify, reifyP, clo, cloL, cloLL, cloEnv, loadBox, storeBox, buildElems, buildCells, int_beq, int_bne, evDraw, evOpsD, evOpD, meetD, numbered, newsOf, newsIn, footsOk, apartF, clash, prec, Region.binds, str_beq, strCmpAV, e1, h1, e2, h2, e3, h3, e4, e5, e6, e7, h7, e8, h8, e9, h9, beqP_ne h10, h10, beqP_ne hne, hr1, hr2, hr3, hr4, hr5, S]
   have e10 := beqP_iff.2 h10
   by_cases h11 : a.at_ = b.at_
   rotate_left
   · have hne : a ≠ b := by rintro rfl; exact h11 rfl
     skip
     simp [↓ev_loop, ev, evOps, evOp, wants, req, reqCall, inOf, evOpd, ofConst, ofCell, hands, Ann.mem, Env.get, Env.set, gives, handT, Op.operands, Call.operands, meet, putD, params, AV.strip, keepAt, lookN, Env.keep, binAV, intBinAV, headId, tidy, flagOp, nilConst, List.filterMap_cons, List.filterMap_nil, outOf, resAll, resOf, reifyR, reify, reifyP, clo, cloL, cloLL, cloEnv, loadBox, storeBox, buildElems, buildCells, int_beq, int_bne, evDraw, evOpsD, evOpD, meetD, numbered, newsOf, newsIn, footsOk, apartF, clash, prec, Region.binds, str_beq, strCmpAV, e1, h1, e2, h2, e3, h3, e4, e5, e6, e7, h7, e8, h8, e9, h9, e10, beqP_ne h11, h11, beqP_ne hne, hr1, hr2, hr3, hr4, hr5, S]
   have e11 := beqP_iff.2 h11
   by_cases h12 : a.to_ = b.to_
   rotate_left
   · have hne : a ≠ b := by rintro rfl; exact h12 rfl
     skip
     simp [↓ev_loop, ev, evOps, evOp, wants, req, reqCall, inOf, evOpd, ofConst, ofCell, hands, Ann.mem, Env.get, Env.set, gives, handT, Op.operands, Call.operands, meet, putD, params, AV.strip, keepAt, lookN, Env.keep, binAV, intBinAV, headId, tidy, flagOp, nilConst, List.filterMap_cons, List.filterMap_nil, outOf, resAll, resOf, reifyR, reify, reifyP, clo, cloL, cloLL, cloEnv, loadBox, storeBox, buildElems, buildCells, int_beq, int_bne, evDraw, evOpsD, evOpD, meetD, numbered, newsOf, newsIn, footsOk, apartF, clash, prec, Region.binds, str_beq, strCmpAV, e1, h1, e2, h2, e3, h3, e4, e5, e6, e7, h7, e8, h8, e9, h9, e10, e11, beqP_ne h12, h12, beqP_ne hne, hr1, hr2, hr3, hr4, hr5, S]
   have e12 := beqP_iff.2 h12
   by_cases h13 : a.old = b.old
   rotate_left
   · have hne : a ≠ b := by rintro rfl; exact h13 rfl
     skip
     simp [↓ev_loop, ev, evOps, evOp, wants, req, reqCall, inOf, evOpd, ofConst, ofCell, hands, Ann.mem, Env.get, Env.set, gives, handT, Op.operands, Call.operands, meet, putD, params, AV.strip, keepAt, lookN, Env.keep, binAV, intBinAV, headId, tidy, flagOp, nilConst, List.filterMap_cons, List.filterMap_nil, outOf, resAll, resOf, reifyR, reify, reifyP, clo, cloL, cloLL, cloEnv, loadBox, storeBox, buildElems, buildCells, int_beq, int_bne, evDraw, evOpsD, evOpD, meetD, numbered, newsOf, newsIn, footsOk, apartF, clash, prec, Region.binds, str_beq, strCmpAV, e1, h1, e2, h2, e3, h3, e4, e5, e6, e7, h7, e8, h8, e9, h9, e10, e11, e12, beqP_ne h13, h13, beqP_ne hne, hr1, hr2, hr3, hr4, hr5, S]
   have e13 := beqP_iff.2 h13
   by_cases h14 : a.new = b.new
   rotate_left
   · have hne : a ≠ b := by rintro rfl; exact h14 rfl
     skip
     simp [↓ev_loop, ev, evOps, evOp, wants, req, reqCall, inOf, evOpd, ofConst, ofCell, hands, Ann.mem, Env.get, Env.set, gives, handT, Op.operands, Call.operands, meet, putD, params, AV.strip, keepAt, lookN, Env.keep, binAV, intBinAV, headId, tidy, flagOp, nilConst, List.filterMap_cons, List.filterMap_nil, outOf, resAll, resOf, reifyR, reify, reifyP, clo, cloL, cloLL, cloEnv, loadBox, storeBox, buildElems, buildCells, int_beq, int_bne, evDraw, evOpsD, evOpD, meetD, numbered, newsOf, newsIn, footsOk, apartF, clash, prec, Region.binds, str_beq, strCmpAV, e1, h1, e2, h2, e3, h3, e4, e5, e6, e7, h7, e8, h8, e9, h9, e10, e11, e12, e13, beqP_ne h14, h14, beqP_ne hne, hr1, hr2, hr3, hr4, hr5, S]
   have e14 := beqP_iff.2 h14
   by_cases h15 : a.unit = b.unit
   rotate_left
   · have hne : a ≠ b := by rintro rfl; exact h15 rfl
     skip
     simp [↓ev_loop, ev, evOps, evOp, wants, req, reqCall, inOf, evOpd, ofConst, ofCell, hands, Ann.mem, Env.get, Env.set, gives, handT, Op.operands, Call.operands, meet, putD, params, AV.strip, keepAt, lookN, Env.keep, binAV, intBinAV, headId, tidy, flagOp, nilConst, List.filterMap_cons, List.filterMap_nil, outOf, resAll, resOf, reifyR, reify, reifyP, clo, cloL, cloLL, cloEnv, loadBox, storeBox, buildElems, buildCells, int_beq, int_bne, evDraw, evOpsD, evOpD, meetD, numbered, newsOf, newsIn, footsOk, apartF, clash, prec, Region.binds, str_beq, strCmpAV, e1, h1, e2, h2, e3, h3, e4, e5, e6, e7, h7, e8, h8, e9, h9, e10, e11, e12, e13, e14, beqP_ne h15, h15, beqP_ne hne, hr1, hr2, hr3, hr4, hr5, S]
   have e15 := beqP_iff.2 h15
   by_cases h16 : a.by_.length = b.by_.length
   rotate_left
   · have hne : a ≠ b := by rintro rfl; exact h16 rfl
     have hk : ¬ ((a.by_.length : Nat) : Int) = ((b.by_.length : Nat) : Int) := by omega
     simp [↓ev_loop, ev, evOps, evOp, wants, req, reqCall, inOf, evOpd, ofConst, ofCell, hands, Ann.mem, Env.get, Env.set, gives, handT, Op.operands, Call.operands, meet, putD, params, AV.strip, keepAt, lookN, Env.keep, binAV, intBinAV, headId, tidy, flagOp, nilConst, List.filterMap_cons, List.filterMap_nil, outOf, resAll, resOf, reifyR, reify, reifyP, clo, cloL, cloLL, cloEnv, loadBox, storeBox, buildElems, buildCells, int_beq, int_bne, evDraw, evOpsD, evOpD, meetD, numbered, newsOf, newsIn, footsOk, apartF, clash, prec, Region.binds, str_beq, strCmpAV, e1, h1, e2, h2, e3, h3, e4, e5, e6, e7, h7, e8, h8, e9, h9, e10, e11, e12, e13, e14, e15, hk, beqP_ne hne, hr1, hr2, hr3, hr4, hr5, S]
   obtain ⟨x, e', H', hz, rfl, h2⟩ := lp26 a b H.length (H.length + 1) (H.length :: bs) (H ++ [.box (cItem a), .box (cItem b)]) c0 hc0 (by simp) (by simp) hkl h16 ih'
   simp only [S, List.map_nil, Int.ofNat_eq_natCast, Int.natCast_zero, List.length_append, List.length_cons, List.length_nil, Nat.zero_add, Nat.reduceAdd] at hz
   rcases h2 with ⟨rfl, hk⟩ | ⟨rfl, hf, hk⟩
   · have hab : a = b := item_ext h1 h2 h3 h4 h5 h6 h7 h8 h9 h10 h11 h12 h13 h14 h15 hk
     subst hab
     simp [↓ev_loop, ev, evOps, evOp, wants, req, reqCall, inOf, evOpd, ofConst, ofCell, hands, Ann.mem, Env.get, Env.set, gives, handT, Op.operands, Call.operands, meet, putD, params, AV.strip, keepAt, lookN, Env.keep, binAV, intBinAV, headId, tidy, flagOp, nilConst, List.filterMap_cons, List.filterMap_nil, outOf, resAll, resOf, reifyR, reify, reifyP, clo, cloL, cloLL, cloEnv, loadBox, storeBox, buildElems, buildCells, int_beq, int_bne, evDraw, evOpsD, evOpD, meetD, numbered, newsOf, newsIn, footsOk, apartF, clash, prec, Region.binds, str_beq, strCmpAV, hz, hr1, hr2, hr3, hr4, hr5, S]
   · have hne : a ≠ b := by rintro rfl; exact hk rfl
     simp [↓ev_loop, ev, evOps, evOp, wants, req, reqCall, inOf, evOpd, ofConst, ofCell, hands, Ann.mem, Env.get, Env.set, gives, handT, Op.operands, Call.operands, meet, putD, params, AV.strip, keepAt, lookN, Env.keep, binAV, intBinAV, headId, tidy, flagOp, nilConst, List.filterMap_cons, List.filterMap_nil, outOf, resAll, resOf, reifyR, reify, reifyP, clo, cloL, cloLL, cloEnv, loadBox, storeBox, buildElems, buildCells, int_beq, int_bne, evDraw, evOpsD, evOpD, meetD, numbered, newsOf, newsIn, footsOk, apartF, clash, prec, Region.binds, str_beq, strCmpAV, hz, e1, h1, e2, h2, e3, h3, e4, e5, e6, e7, h7, e8, h8, e9, h9, e10, e11, e12, e13, e14, e15, h16, hf, beqP_ne hne, hr1, hr2, hr3, hr4, hr5, S]
end Go.Proofs.Ytlpilgnjlnepeaa.T
namespace Go.Proofs.Ytlpilgnjlnepeaa.T
open Go.VM Go.Proofs
set_option linter.unusedSimpArgs false
set_option maxHeartbeats 16000000
set_option maxRecDepth 10000

theorem lp76 (a b : List Unit) (bs : List Nat) (H : List AO) (c0 : Code) (hc0 : (loops (Try.f76.body.getD .skip))[0]? = some c0) (hl : a.length ≤ 4000000000000000000) (hab : a.length = b.length) (ih : ∀ x ∈ a, ∀ y bs H, callD X 67 [.agg (cUnit x), .agg (cUnit y)] bs H = some (.bool (beqP x y), H)) :
    ∃ x e' H', lev Try.prog an76 (callD X) c0 bs ((fun s : Nat => [(1, S cUnit b), (2, .func 67 [] []), (15, S cUnit a), (16, I a.length), (17, I s)]) (0)) ((fun s : Nat => H) (0)) = some (x, e', H') ∧ (H'.take H.length = H ∧ H.length ≤ H'.length ∧ ((x = .exit 0 ∧ a = b) ∨ (x = .ret ∧ e'.get 6 = .bool false ∧ a ≠ b))) := by
  simp only [Try.f76, loops, List.cons_append, List.nil_append, List.append_nil, List.getElem?_cons_zero, List.getElem?_cons_succ, Option.getD_some, Option.some.injEq] at hc0
  refine lev_inv (σ := Nat) (fun s => [(1, S cUnit b), (2, .func 67 [] []), (15, S cUnit a), (16, I a.length), (17, I s)]) (fun s => H) (fun s => s ≤ a.length ∧ a.take s = b.take s) (fun s => a.length - s) (fun x e' H' => H'.take H.length = H ∧ H.length ≤ H'.length ∧ ((x = .exit 0 ∧ a = b) ∨ (x = .ret ∧ e'.get 6 = .bool false ∧ a ≠ b))) (0) ?_ ?_ ?_ ?_ ?_
  · simp
  · intro s hs; simp
  · intro s hs; simp [cloEnv, clo, cloL, S]
  · intro s hs; subst hc0; simp [keepAt, headId, lookN, Env.keep, Env.get]
  intro s hs
  subst hc0
  obtain ⟨hs, ha⟩ := hs
  rcases Nat.lt_or_ge s a.length with hlt | hge
  · have hlt' : s < b.length := by omega
    have h0 : (s : Int) < (a.length : Int) := by omega
    have hw := wrap_s s (by omega)
    have hg : a[s]? = some a[s] := by simp [hlt]
    have hg' : b[s]? = some b[s] := by simp [hlt']
    have ih' := ih a[s] (List.getElem_mem hlt) b[s]
    by_cases he : a[s] = b[s]
    · left
      refine ⟨s + 1, ?_, ⟨hlt, by rw [take_s _ s hlt, take_s _ s hlt', ha, he]⟩, by omega⟩
      rw [← he] at hg' ih'
      generalize a[s] = g at hg hg' ih'
      simp [↓ev_loop, ev, evOps, evOp, wants, req, reqCall, inOf, evOpd, ofConst, ofCell, hands, Ann.mem, Env.get, Env.set, gives, handT, Op.operands, Call.operands, meet, putD, params, AV.strip, keepAt, lookN, Env.keep, binAV, intBinAV, headId, tidy, flagOp, nilConst, List.filterMap_cons, List.filterMap_nil, outOf, resAll, resOf, reifyR, reify, reifyP, clo, cloL, cloLL, cloEnv, loadBox, storeBox, okPut, buildElems, buildCells, int_beq, int_bne, h0, hw, hg, hg', ih', S, splice]
    · right
      have hne : a ≠ b := by rintro rfl; exact he rfl
      generalize a[s] = g at hg he ih'
      generalize b[s] = g' at hg' he ih'
      simp [↓ev_loop, ev, evOps, evOp, wants, req, reqCall, inOf, evOpd, ofConst, ofCell, hands, Ann.mem, Env.get, Env.set, gives, handT, Op.operands, Call.operands, meet, putD, params, AV.strip, keepAt, lookN, Env.keep, binAV, intBinAV, headId, tidy, flagOp, nilConst, List.filterMap_cons, List.filterMap_nil, outOf, resAll, resOf, reifyR, reify, reifyP, clo, cloL, cloLL, cloEnv, loadBox, storeBox, okPut, buildElems, buildCells, int_beq, int_bne, h0, hw, hg, hg', beqP_ne he, ih', hne, S, splice]
  · right
    have h0 : ¬ (s : Int) < (a.length : Int) := by omega
    have hab2 : a = b := by rw [List.take_of_length_le hge, List.take_of_length_le (by omega)] at ha; exact ha
    subst hab2
    simp [↓ev_loop, ev, evOps, evOp, wants, req, reqCall, inOf, evOpd, ofConst, ofCell, hands, Ann.mem, Env.get, Env.set, gives, handT, Op.operands, Call.operands, meet, putD, params, AV.strip, keepAt, lookN, Env.keep, binAV, intBinAV, headId, tidy, flagOp, nilConst, List.filterMap_cons, List.filterMap_nil, outOf, resAll, resOf, reifyR, reify, reifyP, clo, cloL, cloLL, cloEnv, loadBox, storeBox, okPut, buildElems, buildCells, int_beq, int_bne, h0, S]
theorem eq76 (a b : List Unit) (hl : a.length ≤ 4000000000000000000) (ih : ∀ x ∈ a, ∀ y bs H, callD X 67 [.agg (cUnit x), .agg (cUnit y)] bs H = some (.bool (beqP x y), H)) (bs : List Nat) (H : List AO) :
    callD X 76 [S cUnit a, S cUnit b, .func 67 [] []] bs H = some (.bool (beqP a b), H) := by
  rw [callD_eq]
  simp only [Xprim]
  unfold runBody
  simp only [XP, Try.func76, Xan76, Xok76]
  obtain ⟨c0, hc0⟩ : ∃ c, (loops (Try.f76.body.getD .skip))[0]? = some c := ⟨_, rfl⟩
  have hd0 := hc0
  simp only [Try.f76, loops, List.cons_append, List.nil_append, List.append_nil, List.getElem?_cons_zero, List.getElem?_cons_succ, Option.getD_some, Option.some.injEq] at hd0
  simp only [Try.f76]
  rw [hd0]
  by_cases hab : a.length = b.length
  · obtain ⟨x, e', H', h1, hH, hH2, h2⟩ := lp76 a b (H.length :: bs) H c0 hc0 hl hab ih
    simp only [S, List.map_nil, Int.ofNat_eq_natCast, Int.natCast_zero, List.length_append, List.length_cons, List.length_nil, Nat.zero_add, Nat.reduceAdd] at h1
    (try simp only [hab] at h1)
    rcases h2 with ⟨rfl, rfl⟩ | ⟨rfl, h3, h4⟩
    · simp [↓ev_loop, ev, evOps, evOp, wants, req, reqCall, inOf, evOpd, ofConst, ofCell, hands, Ann.mem, Env.get, Env.set, gives, handT, Op.operands, Call.operands, meet, putD, params, AV.strip, keepAt, lookN, Env.keep, binAV, intBinAV, headId, tidy, flagOp, nilConst, List.filterMap_cons, List.filterMap_nil, outOf, resAll, resOf, reifyR, reify, reifyP, clo, cloL, cloLL, cloEnv, loadBox, storeBox, okPut, buildElems, buildCells, int_beq, int_bne, h1, hH, hH2, S]
    · simp [↓ev_loop, ev, evOps, evOp, wants, req, reqCall, inOf, evOpd, ofConst, ofCell, hands, Ann.mem, Env.get, Env.set, gives, handT, Op.operands, Call.operands, meet, putD, params, AV.strip, keepAt, lookN, Env.keep, binAV, intBinAV, headId, tidy, flagOp, nilConst, List.filterMap_cons, List.filterMap_nil, outOf, resAll, resOf, reifyR, reify, reifyP, clo, cloL, cloLL, cloEnv, loadBox, storeBox, okPut, buildElems, buildCells, int_beq, int_bne, h1, h3, hab, h4, hH, hH2, S]
  · have hne : a ≠ b := by rintro rfl; exact hab rfl
    have h0 : ¬ ((a.length : Int) = (b.length : Int)) := by omega
    simp [↓ev_loop, ev, evOps, evOp, wants, req, reqCall, inOf, evOpd, ofConst, ofCell, hands, Ann.mem, Env.get, Env.set, gives, handT, Op.operands, Call.operands, meet, putD, params, AV.strip, keepAt, lookN, Env.keep, binAV, intBinAV, headId, tidy, flagOp, nilConst, List.filterMap_cons, List.filterMap_nil, outOf, resAll, resOf, reifyR, reify, reifyP, clo, cloL, cloLL, cloEnv, loadBox, storeBox, okPut, buildElems, buildCells, int_beq, int_bne, hab, h0, hne, S]

theorem lp68 (a b : List Item) (bs : List Nat) (H : List AO) (c0 : Code) (hc0 : (loops (Try.f68.body.getD .skip))[0]? = some c0) (hl : a.length ≤ 4000000000000000000) (hab : a.length = b.length) (ih : ∀ x ∈ a, ∀ y bs H, callD X 56 [.agg (cItem x), .agg (cItem y)] bs H = some (.bool (beqP x y), H)) :
    ∃ x e' H', lev Try.prog an68 (callD X) c0 bs ((fun s : Nat => [(1, S cItem b), (2, .func 56 [] []), (15, S cItem a), (16, I a.length), (17, I s)]) (0)) ((fun s : Nat => H) (0)) = some (x, e', H') ∧ (H'.take H.length = H ∧ H.length ≤ H'.length ∧ ((x = .exit 0 ∧ a = b) ∨ (x = .ret ∧ e'.get 6 = .bool false ∧ a ≠ b))) := by
  simp only [Try.f68, loops, List.cons_append, List.nil_append, List.append_nil, List.getElem?_cons_zero, List.getElem?_cons_succ, Option.getD_some, Option.some.injEq] at hc0
  refine lev_inv (σ := Nat) (fun s => [(1, S cItem b), (2, .func 56 [] []), (15, S cItem a), (16, I a.length), (17, I s)]) (fun s => H) (fun s => s ≤ a.length ∧ a.take s = b.take s) (fun s => a.length - s) (fun x e' H' => H'.take H.length = H ∧ H.length ≤ H'.length ∧ ((x = .exit 0 ∧ a = b) ∨ (x = .ret ∧ e'.get 6 = .bool false ∧ a ≠ b))) (0) ?_ ?_ ?_ ?_ ?_
  · simp
  · intro s hs; simp
  · intro s hs; simp [cloEnv, clo, cloL, S]
  · intro s hs; subst hc0; simp [keepAt, headId, lookN, Env.keep, Env.get]
  intro s hs
  subst hc0
  obtain ⟨hs, ha⟩ := hs
  rcases Nat.lt_or_ge s a.length with hlt | hge
  · have hlt' : s < b.length := by omega
    have h0 : (s : Int) < (a.length : Int) := by omega
    have hw := wrap_s s (by omega)
    have hg : a[s]? = some a[s] := by simp [hlt]
    have hg' : b[s]? = some b[s] := by simp [hlt']
    have ih' := ih a[s] (List.getElem_mem hlt) b[s]
    by_cases he : a[s] = b[s]
    · left
      refine ⟨s + 1, ?_, ⟨hlt, by rw [take_s _ s hlt, take_s _ s hlt', ha, he]⟩, by omega⟩
      rw [← he] at hg' ih'
      generalize a[s] = g at hg hg' ih'
      simp [↓ev_loop, ev, evOps, evOp, wants, req, reqCall, inOf, evOpd, ofConst, ofCell, hands, Ann.mem, Env.get, Env.set, gives, handT, Op.operands, Call.operands, meet, putD, params, AV.strip, keepAt, lookN, Env.keep, binAV, intBinAV, headId, tidy, flagOp, nilConst, List.filterMap_cons, List.filterMap_nil, outOf, resAll, resOf, reifyR, reify, reifyP, clo, cloL, cloLL, cloEnv, loadBox, storeBox, okPut, buildElems, buildCells, int_beq, int_bne, h0, hw, hg, hg', ih', S, splice]
    · right
      have hne : a ≠ b := by rintro rfl; exact he rfl
      generalize a[s] = g at hg he ih'
      generalize b[s] = g' at hg' he ih'
      simp [↓ev_loop, ev, evOps, evOp, wants, req, reqCall, inOf, evOpd, ofConst, ofCell, hands, Ann.mem, Env.get, Env.set, gives, handT, Op.operands, Call.operands, meet, putD, params, AV.strip, keepAt, lookN, Env.keep, binAV, intBinAV, headId, tidy, flagOp, nilConst, List.filterMap_cons, List.filterMap_nil, outOf, resAll, resOf, reifyR, reify, reifyP, clo, cloL, cloLL, cloEnv, loadBox, storeBox, okPut, buildElems, buildCells, int_beq, int_bne, h0, hw, hg, hg', beqP_ne he, ih', hne, S, splice]
  · right
    have h0 : ¬ (s : Int) < (a.length : Int) := by omega
    have hab2 : a = b := by rw [List.take_of_length_le hge, List.take_of_length_le (by omega)] at ha; exact ha
    subst hab2
    simp [↓ev_loop, ev, evOps, evOp, wants, req, reqCall, inOf, evOpd, ofConst, ofCell, hands, Ann.mem, Env.get, Env.set, gives, handT, Op.operands, Call.operands, meet, putD, params, AV.strip, keepAt, lookN, Env.keep, binAV, intBinAV, headId, tidy, flagOp, nilConst, List.filterMap_cons, List.filterMap_nil, outOf, resAll, resOf, reifyR, reify, reifyP, clo, cloL, cloLL, cloEnv, loadBox, storeBox, okPut, buildElems, buildCells, int_beq, int_bne, h0, S]
theorem eq68 (a b : List Item) (hl : a.length ≤ 4000000000000000000) (ih : ∀ x ∈ a, ∀ y bs H, callD X 56 [.agg (cItem x), .agg (cItem y)] bs H = some (.bool (beqP x y), H)) (bs : List Nat) (H : List AO) :
    callD X 68 [S cItem a, S cItem b, .func 56 [] []] bs H = some (.bool (beqP a b), H) := by
  rw [callD_eq]
  simp only [Xprim]
  unfold runBody
  simp only [XP, Try.func68, Xan68, Xok68]
  obtain ⟨c0, hc0⟩ : ∃ c, (loops (Try.f68.body.getD .skip))[0]? = some c := ⟨_, rfl⟩
  have hd0 := hc0
  simp only [Try.f68, loops, List.cons_append, List.nil_append, List.append_nil, List.getElem?_cons_zero, List.getElem?_cons_succ, Option.getD_some, Option.some.injEq] at hd0
  simp only [Try.f68]
  rw [hd0]
  by_cases hab : a.length = b.length
  · obtain ⟨x, e', H', h1, hH, hH2, h2⟩ := lp68 a b (H.length :: bs) H c0 hc0 hl hab ih
    simp only [S, List.map_nil, Int.ofNat_eq_natCast, Int.natCast_zero, List.length_append, List.length_cons, List.length_nil, Nat.zero_add, Nat.reduceAdd] at h1
    (try simp only [hab] at h1)
    rcases h2 with ⟨rfl, rfl⟩ | ⟨rfl, h3, h4⟩
    · simp [↓ev_loop, ev, evOps, evOp, wants, req, reqCall, inOf, evOpd, ofConst, ofCell, hands, Ann.mem, Env.get, Env.set, gives, handT, Op.operands, Call.operands, meet, putD, params, AV.strip, keepAt, lookN, Env.keep, binAV, intBinAV, headId, tidy, flagOp, nilConst, List.filterMap_cons, List.filterMap_nil, outOf, resAll, resOf, reifyR, reify, reifyP, clo, cloL, cloLL, cloEnv, loadBox, storeBox, okPut, buildElems, buildCells, int_beq, int_bne, h1, hH, hH2, S]
    · simp [↓ev_loop, ev, evOps, evOp, wants, req, reqCall, inOf, evOpd, ofConst, ofCell, hands, Ann.mem, Env.get, Env.set, gives, handT, Op.operands, Call.operands, meet, putD, params, AV.strip, keepAt, lookN, Env.keep, binAV, intBinAV, headId, tidy, flagOp, nilConst, List.filterMap_cons, List.filterMap_nil, outOf, resAll, resOf, reifyR, reify, reifyP, clo, cloL, cloLL, cloEnv, loadBox, storeBox, okPut, buildElems, buildCells, int_beq, int_bne, h1, h3, hab, h4, hH, hH2, S]
  · have hne : a ≠ b := by rintro rfl; exact hab rfl
    have h0 : ¬ ((a.length : Int) = (b.length : Int)) := by omega
    simp [↓ev_loop, ev, evOps, evOp, wants, req, reqCall, inOf, evOpd, ofConst, ofCell, hands, Ann.mem, Env.get, Env.set, gives, handT, Op.operands, Call.operands, meet, putD, params, AV.strip, keepAt, lookN, Env.keep, binAV, intBinAV, headId, tidy, flagOp, nilConst, List.filterMap_cons, List.filterMap_nil, outOf, resAll, resOf, reifyR, reify, reifyP, clo, cloL, cloLL, cloEnv, loadBox, storeBox, okPut, buildElems, buildCells, int_beq, int_bne, hab, h0, hne, S]

theorem eq67 : ∀ (n : Nat) (a b : Unit), SizeOf.sizeOf a < n → wfU a → ∀ bs H, callD X 67 [.agg (cUnit a), .agg (cUnit b)] bs H = some (.bool (beqP a b), H) := by
  intro n
  induction n with
  | zero => intro a b h; omega
  | succ n ih =>
   intro a b hn hw bs H
   have hwf := (wfU_eq a).1 hw
   obtain ⟨hhl, hwl, hkl, hwk⟩ := hwf
   have hr1 := fun (y : List Word) bs H => eq75 a.head y hhl bs H
   have hr2 := fun (y : List Word) bs H => eq75 a.words y hwl bs H
   simp only [S] at hr1 hr2
   have hrk := fun (y : List Unit) bs H => eq76 a.kids y hkl (fun x hx y bs H => ih x y (by have := size_kids hx; omega) (hwk x hx) bs H) bs H
   simp only [S] at hrk
   rw [callD_eq]
   simp only [Xprim]
   unfold runBody
   simp only [XP, Try.func67, Xan67, Xok67]
   simp only [Try.f67]
   by_cases h1 : a.id = b.id
   rotate_left
   · have hne : a ≠ b := by rintro rfl; exact h1 rfl
     skip
     simp [↓ev_loop, ev, evOps, evOp, wants, req, reqCall, inOf, evOpd, ofConst, ofCell, hands, Ann.mem, Env.get, Env.set, gives, handT, Op.operands, Call.operands, meet, putD, params, AV.strip, keepAt, lookN, Env.keep, binAV, intBinAV, headId, tidy, flagOp, nilConst, List.filterMap_cons, List.filterMap_nil, outOf, resAll, resOf, reifyR, reify, reifyP, clo, cloL, cloLL, cloEnv, loadBox, storeBox, okPut, buildElems, buildCells, int_beq, int_bne, evDraw, evOpsD, evOpD, meetD, numbered, newsOf, newsIn, footsOk, apartF, clash, prec, Region.binds, str_beq, strCmpAV, beqP_ne h1, h1, beqP_ne hne, hr1, hr2, S]
   have e1 := beqP_iff.2 h1
   by_cases h2 : a.kind = b.kind
   rotate_left
   · have hne : a ≠ b := by rintro rfl; exact h2 rfl
     skip
     simp [↓ev_loop, ev, evOps, evOp, wants, req, reqCall, inOf, evOpd, ofConst, ofCell, hands, Ann.mem, Env.get, Env.set, gives, handT, Op.operands, Call.operands, meet, putD, params, AV.strip, keepAt, lookN, Env.keep, binAV, intBinAV, headId, tidy, flagOp, nilConst, List.filterMap_cons, List.filterMap_nil, outOf, resAll, resOf, reifyR, reify, reifyP, clo, cloL, cloLL, cloEnv, loadBox, storeBox, okPut, buildElems, buildCells, int_beq, int_bne, evDraw, evOpsD, evOpD, meetD, numbered, newsOf, newsIn, footsOk, apartF, clash, prec, Region.binds, str_beq, strCmpAV, e1, beqP_ne h2, h2, beqP_ne hne, hr1, hr2, S]
   have e2 := beqP_iff.2 h2
   by_cases h3 : a.label = b.label
   rotate_left
   · have hne : a ≠ b := by rintro rfl; exact h3 rfl
     skip
     simp [↓ev_loop, ev, evOps, evOp, wants, req, reqCall, inOf, evOpd, ofConst, ofCell, hands, Ann.mem, Env.get, Env.set, gives, handT, Op.operands, Call.operands, meet, putD, params, AV.strip, keepAt, lookN, Env.keep, binAV, intBinAV, headId, tidy, flagOp, nilConst, List.filterMap_cons, List.filterMap_nil, outOf, resAll, resOf, reifyR, reify, reifyP, clo, cloL, cloLL, cloEnv, loadBox, storeBox, okPut, buildElems, buildCells, int_beq, int_bne, evDraw, evOpsD, evOpD, meetD, numbered, newsOf, newsIn, footsOk, apartF, clash, prec, Region.binds, str_beq, strCmpAV, e1, e2, h2, beqP_ne h3, h3, beqP_ne hne, hr1, hr2, S]
   have e3 := beqP_iff.2 h3
   by_cases h4 : a.head = b.head
   rotate_left
   · have hne : a ≠ b := by rintro rfl; exact h4 rfl
     skip
     simp [↓ev_loop, ev, evOps, evOp, wants, req, reqCall, inOf, evOpd, ofConst, ofCell, hands, Ann.mem, Env.get, Env.set, gives, handT, Op.operands, Call.operands, meet, putD, params, AV.strip, keepAt, lookN, Env.keep, binAV, intBinAV, headId, tidy, flagOp, nilConst, List.filterMap_cons, List.filterMap_nil, outOf, resAll, resOf, reifyR, reify, reifyP, clo, cloL, cloLL, cloEnv, loadBox, storeBox, okPut, buildElems, buildCells, int_beq, int_bne, evDraw, evOpsD, evOpD, meetD, numbered, newsOf, newsIn, footsOk, apartF, clash, prec, Region.binds, str_beq, strCmpAV, e1, e2, h2, e3, beqP_ne h4, h4, beqP_ne hne, hr1, hr2, S]
   have e4 := beqP_iff.2 h4
   by_cases h5 : a.words = b.words
   rotate_left
   · have hne : a ≠ b := by rintro rfl; exact h5 rfl
     skip
     simp [↓ev_loop, ev, evOps, evOp, wants, req, reqCall, inOf, evOpd, ofConst, ofCell, hands, Ann.mem, Env.get, Env.set, gives, handT, Op.operands, Call.operands, meet, putD, params, AV.strip, keepAt, lookN, Env.keep, binAV, intBinAV, headId, tidy, flagOp, nilConst, List.filterMap_cons, List.filterMap_nil, outOf, resAll, resOf, reifyR, reify, reifyP, clo, cloL, cloLL, cloEnv, loadBox, storeBox, okPut, buildElems, buildCells, int_beq, int_bne, evDraw, evOpsD, evOpD, meetD, numbered, newsOf, newsIn, footsOk, apartF, clash, prec, Region.binds, str_beq, strCmpAV, e1, e2, h2, e3, e4, beqP_ne h5, h5, beqP_ne hne, hr1, hr2, S]
   have e5 := beqP_iff.2 h5
   by_cases hk : a.kids = b.kids
   · have hab : a = b := unit_ext h1 h2 h3 h4 h5 hk
     subst hab
     simp [↓ev_loop, ev, evOps, evOp, wants, req, reqCall, inOf, evOpd, ofConst, ofCell, hands, Ann.mem, Env.get, Env.set, gives, handT, Op.operands, Call.operands, meet, putD, params, AV.strip, keepAt, lookN, Env.keep, binAV, intBinAV, headId, tidy, flagOp, nilConst, List.filterMap_cons, List.filterMap_nil, outOf, resAll, resOf, reifyR, reify, reifyP, clo, cloL, cloLL, cloEnv, loadBox, storeBox, okPut, buildElems, buildCells, int_beq, int_bne, evDraw, evOpsD, evOpD, meetD, numbered, newsOf, newsIn, footsOk, apartF, clash, prec, Region.binds, str_beq, strCmpAV, hrk, hr1, hr2, S]
   · have hne : a ≠ b := by rintro rfl; exact hk rfl
     simp [↓ev_loop, ev, evOps, evOp, wants, req, reqCall, inOf, evOpd, ofConst, ofCell, hands, Ann.mem, Env.get, Env.set, gives, handT, Op.operands, Call.operands, meet, putD, params, AV.strip, keepAt, lookN, Env.keep, binAV, intBinAV, headId, tidy, flagOp, nilConst, List.filterMap_cons, List.filterMap_nil, outOf, resAll, resOf, reifyR, reify, reifyP, clo, cloL, cloLL, cloEnv, loadBox, storeBox, okPut, buildElems, buildCells, int_beq, int_bne, evDraw, evOpsD, evOpD, meetD, numbered, newsOf, newsIn, footsOk, apartF, clash, prec, Region.binds, str_beq, strCmpAV, hrk, e1, e2, h2, e3, e4, e5, beqP_ne hk, beqP_ne hne, hr1, hr2, S]
end Go.Proofs.Ytlpilgnjlnepeaa.T
namespace Go.Proofs.Ytlpilgnjlnepeaa.T
open Go.VM Go.Proofs
set_option linter.unusedSimpArgs false
set_option maxHeartbeats 16000000
set_option maxRecDepth 10000

/-- The regions of a text, in order. -/
def regs : Code → List Code
  | .region i o d => [.region i o d]
  | .seq a b => regs a ++ regs b
  | .cond _ a b => regs a ++ regs b
  | .block _ c => regs c
  | .loop c => regs c
  | _ => []

theorem reg56_1 (a b : Item) (pa pb : Nat) (b5 b6 : Bool)  (bs : List Nat) (H : List AO) (hA : H[pa]? = some (.box (cItem a))) (hB : H[pb]? = some (.box (cItem b))) (c : Code) (hc : (regs (Try.f56.body.getD .skip))[1]? = some c) :
    ev Try.prog an56 (callD X) iterD c bs [(2, .ptr pa 0), (3, .ptr pb 0)] H = some (.normal, [(2, .ptr pa 0), (3, .ptr pb 0), (5, .bool (((((beqP a.kind b.kind && beqP a.where_ b.where_) && beqP a.nth b.nth) && beqP a.act b.act) && beqP a.item b.item) && beqP a.day b.day))], H) := by
  simp only [Try.f56, regs, List.cons_append, List.nil_append, List.append_nil, List.getElem?_cons_zero, List.getElem?_cons_succ, Option.getD_some, Option.some.injEq] at hc
  subst hc
  
  by_cases h1 : a.kind = b.kind
  rotate_left
  · simp [↓ev_loop, ev, evOps, evOp, wants, req, reqCall, inOf, evOpd, ofConst, ofCell, hands, Ann.mem, Env.get, Env.set, gives, handT, Op.operands, Call.operands, meet, putD, params, AV.strip, keepAt, lookN, Env.keep, binAV, intBinAV, headId, tidy, flagOp, nilConst, List.filterMap_cons, List.filterMap_nil, outOf, resAll, resOf, reifyR, reify, reifyP, clo, cloL, cloLL, cloEnv, loadBox, storeBox, okPut, buildElems, buildCells, int_beq, int_bne, str_beq, strCmpAV, hA, hB, beqP_ne h1, h1, and_true]
  have e1 := beqP_iff.2 h1
  by_cases h2 : a.where_ = b.where_
  rotate_left
  · simp [↓ev_loop, ev, evOps, evOp, wants, req, reqCall, inOf, evOpd, ofConst, ofCell, hands, Ann.mem, Env.get, Env.set, gives, handT, Op.operands, Call.operands, meet, putD, params, AV.strip, keepAt, lookN, Env.keep, binAV, intBinAV, headId, tidy, flagOp, nilConst, List.filterMap_cons, List.filterMap_nil, outOf, resAll, resOf, reifyR, reify, reifyP, clo, cloL, cloLL, cloEnv, loadBox, storeBox, okPut, buildElems, buildCells, int_beq, int_bne, str_beq, strCmpAV, hA, hB, e1, h1, beqP_ne h2, h2, and_true]
  have e2 := beqP_iff.2 h2
  by_cases h3 : a.nth = b.nth
  rotate_left
  · simp [↓ev_loop, ev, evOps, evOp, wants, req, reqCall, inOf, evOpd, ofConst, ofCell, hands, Ann.mem, Env.get, Env.set, gives, handT, Op.operands, Call.operands, meet, putD, params, AV.strip, keepAt, lookN, Env.keep, binAV, intBinAV, headId, tidy, flagOp, nilConst, List.filterMap_cons, List.filterMap_nil, outOf, resAll, resOf, reifyR, reify, reifyP, clo, cloL, cloLL, cloEnv, loadBox, storeBox, okPut, buildElems, buildCells, int_beq, int_bne, str_beq, strCmpAV, hA, hB, e1, h1, e2, h2, beqP_ne h3, h3, and_true]
  have e3 := beqP_iff.2 h3
  by_cases h4 : a.act = b.act
  rotate_left
  · simp [↓ev_loop, ev, evOps, evOp, wants, req, reqCall, inOf, evOpd, ofConst, ofCell, hands, Ann.mem, Env.get, Env.set, gives, handT, Op.operands, Call.operands, meet, putD, params, AV.strip, keepAt, lookN, Env.keep, binAV, intBinAV, headId, tidy, flagOp, nilConst, List.filterMap_cons, List.filterMap_nil, outOf, resAll, resOf, reifyR, reify, reifyP, clo, cloL, cloLL, cloEnv, loadBox, storeBox, okPut, buildElems, buildCells, int_beq, int_bne, str_beq, strCmpAV, hA, hB, e1, h1, e2, h2, e3, h3, beqP_ne h4, h4, and_true]
  have e4 := beqP_iff.2 h4
  by_cases h5 : a.item = b.item
  rotate_left
  · simp [↓ev_loop, ev, evOps, evOp, wants, req, reqCall, inOf, evOpd, ofConst, ofCell, hands, Ann.mem, Env.get, Env.set, gives, handT, Op.operands, Call.operands, meet, putD, params, AV.strip, keepAt, lookN, Env.keep, binAV, intBinAV, headId, tidy, flagOp, nilConst, List.filterMap_cons, List.filterMap_nil, outOf, resAll, resOf, reifyR, reify, reifyP, clo, cloL, cloLL, cloEnv, loadBox, storeBox, okPut, buildElems, buildCells, int_beq, int_bne, str_beq, strCmpAV, hA, hB, e1, h1, e2, h2, e3, h3, e4, h4, beqP_ne h5, h5, and_true]
  have e5 := beqP_iff.2 h5
  by_cases h6 : a.day = b.day
  rotate_left
  · simp [↓ev_loop, ev, evOps, evOp, wants, req, reqCall, inOf, evOpd, ofConst, ofCell, hands, Ann.mem, Env.get, Env.set, gives, handT, Op.operands, Call.operands, meet, putD, params, AV.strip, keepAt, lookN, Env.keep, binAV, intBinAV, headId, tidy, flagOp, nilConst, List.filterMap_cons, List.filterMap_nil, outOf, resAll, resOf, reifyR, reify, reifyP, clo, cloL, cloLL, cloEnv, loadBox, storeBox, okPut, buildElems, buildCells, int_beq, int_bne, str_beq, strCmpAV, hA, hB, e1, h1, e2, h2, e3, h3, e4, h4, e5, h5, beqP_ne h6, h6, and_true]
  have e6 := beqP_iff.2 h6
  simp [↓ev_loop, ev, evOps, evOp, wants, req, reqCall, inOf, evOpd, ofConst, ofCell, hands, Ann.mem, Env.get, Env.set, gives, handT, Op.operands, Call.operands, meet, putD, params, AV.strip, keepAt, lookN, Env.keep, binAV, intBinAV, headId, tidy, flagOp, nilConst, List.filterMap_cons, List.filterMap_nil, outOf, resAll, resOf, reifyR, reify, reifyP, clo, cloL, cloLL, cloEnv, loadBox, storeBox, okPut, buildElems, buildCells, int_beq, int_bne, str_beq, strCmpAV, hA, hB, e1, h1, e2, h2, e3, h3, e4, h4, e5, h5, e6, h6, and_true]

theorem reg56_2 (a b : Item) (pa pb : Nat) (b5 b6 : Bool)  (bs : List Nat) (H : List AO) (hA : H[pa]? = some (.box (cItem a))) (hB : H[pb]? = some (.box (cItem b))) (c : Code) (hc : (regs (Try.f56.body.getD .skip))[2]? = some c) :
    ev Try.prog an56 (callD X) iterD c bs [(2, .ptr pa 0), (3, .ptr pb 0), (5, .bool b5)] H = some (.normal, [(2, .ptr pa 0), (3, .ptr pb 0), (5, .bool b5), (6, .bool (((beqP a.label b.label && beqP a.for_ b.for_) && beqP a.event b.event) && beqP a.start b.start))], H) := by
  simp only [Try.f56, regs, List.cons_append, List.nil_append, List.append_nil, List.getElem?_cons_zero, List.getElem?_cons_succ, Option.getD_some, Option.some.injEq] at hc
  subst hc
  
  by_cases h1 : a.label = b.label
  rotate_left
  · simp [↓ev_loop, ev, evOps, evOp, wants, req, reqCall, inOf, evOpd, ofConst, ofCell, hands, Ann.mem, Env.get, Env.set, gives, handT, Op.operands, Call.operands, meet, putD, params, AV.strip, keepAt, lookN, Env.keep, binAV, intBinAV, headId, tidy, flagOp, nilConst, List.filterMap_cons, List.filterMap_nil, outOf, resAll, resOf, reifyR, reify, reifyP, clo, cloL, cloLL, cloEnv, loadBox, storeBox, okPut, buildElems, buildCells, int_beq, int_bne, str_beq, strCmpAV, hA, hB, beqP_ne h1, h1, and_true]
  have e1 := beqP_iff.2 h1
  by_cases h2 : a.for_ = b.for_
  rotate_left
  · simp [↓ev_loop, ev, evOps, evOp, wants, req, reqCall, inOf, evOpd, ofConst, ofCell, hands, Ann.mem, Env.get, Env.set, gives, handT, Op.operands, Call.operands, meet, putD, params, AV.strip, keepAt, lookN, Env.keep, binAV, intBinAV, headId, tidy, flagOp, nilConst, List.filterMap_cons, List.filterMap_nil, outOf, resAll, resOf, reifyR, reify, reifyP, clo, cloL, cloLL, cloEnv, loadBox, storeBox, okPut, buildElems, buildCells, int_beq, int_bne, str_beq, strCmpAV, hA, hB, e1, beqP_ne h2, h2, and_true]
  have e2 := beqP_iff.2 h2
  by_cases h3 : a.event = b.event
  rotate_left
  · simp [↓ev_loop, ev, evOps, evOp, wants, req, reqCall, inOf, evOpd, ofConst, ofCell, hands, Ann.mem, Env.get, Env.set, gives, handT, Op.operands, Call.operands, meet, putD, params, AV.strip, keepAt, lookN, Env.keep, binAV, intBinAV, headId, tidy, flagOp, nilConst, List.filterMap_cons, List.filterMap_nil, outOf, resAll, resOf, reifyR, reify, reifyP, clo, cloL, cloLL, cloEnv, loadBox, storeBox, okPut, buildElems, buildCells, int_beq, int_bne, str_beq, strCmpAV, hA, hB, e1, e2, beqP_ne h3, h3, and_true]
  have e3 := beqP_iff.2 h3
  by_cases h4 : a.start = b.start
  rotate_left
  · simp [↓ev_loop, ev, evOps, evOp, wants, req, reqCall, inOf, evOpd, ofConst, ofCell, hands, Ann.mem, Env.get, Env.set, gives, handT, Op.operands, Call.operands, meet, putD, params, AV.strip, keepAt, lookN, Env.keep, binAV, intBinAV, headId, tidy, flagOp, nilConst, List.filterMap_cons, List.filterMap_nil, outOf, resAll, resOf, reifyR, reify, reifyP, clo, cloL, cloLL, cloEnv, loadBox, storeBox, okPut, buildElems, buildCells, int_beq, int_bne, str_beq, strCmpAV, hA, hB, e1, e2, e3, beqP_ne h4, h4, and_true]
  have e4 := beqP_iff.2 h4
  simp [↓ev_loop, ev, evOps, evOp, wants, req, reqCall, inOf, evOpd, ofConst, ofCell, hands, Ann.mem, Env.get, Env.set, gives, handT, Op.operands, Call.operands, meet, putD, params, AV.strip, keepAt, lookN, Env.keep, binAV, intBinAV, headId, tidy, flagOp, nilConst, List.filterMap_cons, List.filterMap_nil, outOf, resAll, resOf, reifyR, reify, reifyP, clo, cloL, cloLL, cloEnv, loadBox, storeBox, okPut, buildElems, buildCells, int_beq, int_bne, str_beq, strCmpAV, hA, hB, e1, e2, e3, e4, and_true]

theorem reg56_3 (a b : Item) (pa pb : Nat) (b5 b6 : Bool) (hw : wfI a) (bs : List Nat) (H : List AO) (hA : H[pa]? = some (.box (cItem a))) (hB : H[pb]? = some (.box (cItem b))) (c : Code) (hc : (regs (Try.f56.body.getD .skip))[3]? = some c) :
    ev Try.prog an56 (callD X) iterD c bs [(2, .ptr pa 0), (3, .ptr pb 0), (5, .bool b5), (6, .bool b6)] H = some (.normal, [(2, .ptr pa 0), (3, .ptr pb 0), (5, .bool b5), (6, .bool b6), (7, .bool (((beqP a.at_ b.at_ && beqP a.to_ b.to_) && beqP a.old b.old) && beqP a.new b.new))], H) := by
  simp only [Try.f56, regs, List.cons_append, List.nil_append, List.append_nil, List.getElem?_cons_zero, List.getElem?_cons_succ, Option.getD_some, Option.some.injEq] at hc
  subst hc
  obtain ⟨ha1, ha2, ha3, ha4, ha5, hkl, hwk⟩ := (wfI_eq a).1 hw
  have hr1 := fun (y : List Step) bs H => eq65 a.at_ y ha1 bs H
  have hr2 := fun (y : List Step) bs H => eq65 a.to_ y ha2 bs H
  have hr3 := fun (y : List ByteArray) bs H => eq66 a.old y ha3 bs H
  have hr4 := fun (y : List ByteArray) bs H => eq66 a.new y ha4 bs H
  simp only [S] at hr1 hr2 hr3 hr4
  by_cases h1 : a.at_ = b.at_
  rotate_left
  · simp [↓ev_loop, ev, evOps, evOp, wants, req, reqCall, inOf, evOpd, ofConst, ofCell, hands, Ann.mem, Env.get, Env.set, gives, handT, Op.operands, Call.operands, meet, putD, params, AV.strip, keepAt, lookN, Env.keep, binAV, intBinAV, headId, tidy, flagOp, nilConst, List.filterMap_cons, List.filterMap_nil, outOf, resAll, resOf, reifyR, reify, reifyP, clo, cloL, cloLL, cloEnv, loadBox, storeBox, okPut, buildElems, buildCells, int_beq, int_bne, str_beq, strCmpAV, hA, hB, beqP_ne h1, h1, hr1, hr2, hr3, hr4, S]
  have e1 := beqP_iff.2 h1
  by_cases h2 : a.to_ = b.to_
  rotate_left
  · simp [↓ev_loop, ev, evOps, evOp, wants, req, reqCall, inOf, evOpd, ofConst, ofCell, hands, Ann.mem, Env.get, Env.set, gives, handT, Op.operands, Call.operands, meet, putD, params, AV.strip, keepAt, lookN, Env.keep, binAV, intBinAV, headId, tidy, flagOp, nilConst, List.filterMap_cons, List.filterMap_nil, outOf, resAll, resOf, reifyR, reify, reifyP, clo, cloL, cloLL, cloEnv, loadBox, storeBox, okPut, buildElems, buildCells, int_beq, int_bne, str_beq, strCmpAV, hA, hB, e1, beqP_ne h2, h2, hr1, hr2, hr3, hr4, S]
  have e2 := beqP_iff.2 h2
  by_cases h3 : a.old = b.old
  rotate_left
  · simp [↓ev_loop, ev, evOps, evOp, wants, req, reqCall, inOf, evOpd, ofConst, ofCell, hands, Ann.mem, Env.get, Env.set, gives, handT, Op.operands, Call.operands, meet, putD, params, AV.strip, keepAt, lookN, Env.keep, binAV, intBinAV, headId, tidy, flagOp, nilConst, List.filterMap_cons, List.filterMap_nil, outOf, resAll, resOf, reifyR, reify, reifyP, clo, cloL, cloLL, cloEnv, loadBox, storeBox, okPut, buildElems, buildCells, int_beq, int_bne, str_beq, strCmpAV, hA, hB, e1, e2, beqP_ne h3, h3, hr1, hr2, hr3, hr4, S]
  have e3 := beqP_iff.2 h3
  by_cases h4 : a.new = b.new
  rotate_left
  · simp [↓ev_loop, ev, evOps, evOp, wants, req, reqCall, inOf, evOpd, ofConst, ofCell, hands, Ann.mem, Env.get, Env.set, gives, handT, Op.operands, Call.operands, meet, putD, params, AV.strip, keepAt, lookN, Env.keep, binAV, intBinAV, headId, tidy, flagOp, nilConst, List.filterMap_cons, List.filterMap_nil, outOf, resAll, resOf, reifyR, reify, reifyP, clo, cloL, cloLL, cloEnv, loadBox, storeBox, okPut, buildElems, buildCells, int_beq, int_bne, str_beq, strCmpAV, hA, hB, e1, e2, e3, beqP_ne h4, h4, hr1, hr2, hr3, hr4, S]
  have e4 := beqP_iff.2 h4
  simp [↓ev_loop, ev, evOps, evOp, wants, req, reqCall, inOf, evOpd, ofConst, ofCell, hands, Ann.mem, Env.get, Env.set, gives, handT, Op.operands, Call.operands, meet, putD, params, AV.strip, keepAt, lookN, Env.keep, binAV, intBinAV, headId, tidy, flagOp, nilConst, List.filterMap_cons, List.filterMap_nil, outOf, resAll, resOf, reifyR, reify, reifyP, clo, cloL, cloLL, cloEnv, loadBox, storeBox, okPut, buildElems, buildCells, int_beq, int_bne, str_beq, strCmpAV, hA, hB, e1, e2, e3, e4, hr1, hr2, hr3, hr4, S]

theorem eq56 : ∀ (n : Nat) (a b : Item), SizeOf.sizeOf a < n → wfI a → ∀ bs H, callD X 56 [.agg (cItem a), .agg (cItem b)] bs H = some (.bool (beqP a b), H) := by
  intro n
  induction n with
  | zero => intro a b h; omega
  | succ n ih =>
   intro a b hn hw bs H
   obtain ⟨ha1, ha2, ha3, ha4, ha5, hkl, hwk⟩ := (wfI_eq a).1 hw
   have hr5 := fun (y : Unit) bs H => eq67 _ a.unit y (Nat.lt_succ_self _) ha5 bs H
   have hrk := fun (y : List Item) bs H => eq68 a.by_ y hkl (fun x hx y bs H => ih x y (by have := size_by hx; omega) (hwk x hx) bs H) bs H
   simp only [S] at hrk
   rw [callD_eq]
   simp only [Xprim]
   unfold runBody
   simp only [XP, Try.func56, Xan56, Xok56]
   obtain ⟨c1, hc1⟩ : ∃ c, (regs (Try.f56.body.getD .skip))[1]? = some c := ⟨_, rfl⟩
   obtain ⟨c2, hc2⟩ : ∃ c, (regs (Try.f56.body.getD .skip))[2]? = some c := ⟨_, rfl⟩
   obtain ⟨c3, hc3⟩ : ∃ c, (regs (Try.f56.body.getD .skip))[3]? = some c := ⟨_, rfl⟩
   have h1 := reg56_1 a b H.length (H.length + 1) true true (H.length :: bs) (H ++ [.box (cItem a), .box (cItem b)]) (by simp) (by simp) c1 hc1
   have h2 := fun b5 => reg56_2 a b H.length (H.length + 1) b5 true (H.length :: bs) (H ++ [.box (cItem a), .box (cItem b)]) (by simp) (by simp) c2 hc2
   have h3 := fun b5 b6 => reg56_3 a b H.length (H.length + 1) b5 b6 hw (H.length :: bs) (H ++ [.box (cItem a), .box (cItem b)]) (by simp) (by simp) c3 hc3
   simp only [Try.f56, regs, List.cons_append, List.nil_append, List.append_nil, List.getElem?_cons_zero, List.getElem?_cons_succ, Option.getD_some, Option.some.injEq] at hc1 hc2 hc3
   simp only [Try.f56]
   rw [hc1, hc2, hc3]
   generalize k1 : (((((beqP a.kind b.kind && beqP a.where_ b.where_) && beqP a.nth b.nth) && beqP a.act b.act) && beqP a.item b.item) && beqP a.day b.day) = b1 at h1
   generalize k2 : (((beqP a.label b.label && beqP a.for_ b.for_) && beqP a.event b.event) && beqP a.start b.start) = b2 at h2
   generalize k3 : (((beqP a.at_ b.at_ && beqP a.to_ b.to_) && beqP a.old b.old) && beqP a.new b.new) = b3 at h3
   have out : ∀ r : Bool, r = beqP a b → (some (AV.bool r, H) : Option (AV × List AO)) = some (.bool (beqP a b), H) := fun r h => by rw [h]
   cases b1
   · have hne : a ≠ b := by rintro rfl; simp at k1
     simp [↓ev_loop, ev, evOps, evOp, wants, req, reqCall, inOf, evOpd, ofConst, ofCell, hands, Ann.mem, Env.get, Env.set, gives, handT, Op.operands, Call.operands, meet, putD, params, AV.strip, keepAt, lookN, Env.keep, binAV, intBinAV, headId, tidy, flagOp, nilConst, List.filterMap_cons, List.filterMap_nil, outOf, resAll, resOf, reifyR, reify, reifyP, clo, cloL, cloLL, cloEnv, loadBox, storeBox, okPut, buildElems, buildCells, int_beq, int_bne, h1, h2, h3, beqP_ne hne]
   cases b2
   · have hne : a ≠ b := by rintro rfl; simp at k2
     simp [↓ev_loop, ev, evOps, evOp, wants, req, reqCall, inOf, evOpd, ofConst, ofCell, hands, Ann.mem, Env.get, Env.set, gives, handT, Op.operands, Call.operands, meet, putD, params, AV.strip, keepAt, lookN, Env.keep, binAV, intBinAV, headId, tidy, flagOp, nilConst, List.filterMap_cons, List.filterMap_nil, outOf, resAll, resOf, reifyR, reify, reifyP, clo, cloL, cloLL, cloEnv, loadBox, storeBox, okPut, buildElems, buildCells, int_beq, int_bne, h1, h2, h3, beqP_ne hne]
   cases b3
   · have hne : a ≠ b := by rintro rfl; simp at k3
     simp [↓ev_loop, ev, evOps, evOp, wants, req, reqCall, inOf, evOpd, ofConst, ofCell, hands, Ann.mem, Env.get, Env.set, gives, handT, Op.operands, Call.operands, meet, putD, params, AV.strip, keepAt, lookN, Env.keep, binAV, intBinAV, headId, tidy, flagOp, nilConst, List.filterMap_cons, List.filterMap_nil, outOf, resAll, resOf, reifyR, reify, reifyP, clo, cloL, cloLL, cloEnv, loadBox, storeBox, okPut, buildElems, buildCells, int_beq, int_bne, h1, h2, h3, beqP_ne hne]
   by_cases h5 : a.unit = b.unit
   rotate_left
   · have hne : a ≠ b := by rintro rfl; exact h5 rfl
     simp [↓ev_loop, ev, evOps, evOp, wants, req, reqCall, inOf, evOpd, ofConst, ofCell, hands, Ann.mem, Env.get, Env.set, gives, handT, Op.operands, Call.operands, meet, putD, params, AV.strip, keepAt, lookN, Env.keep, binAV, intBinAV, headId, tidy, flagOp, nilConst, List.filterMap_cons, List.filterMap_nil, outOf, resAll, resOf, reifyR, reify, reifyP, clo, cloL, cloLL, cloEnv, loadBox, storeBox, okPut, buildElems, buildCells, int_beq, int_bne, h1, h2, h3, beqP_ne hne, hr5, beqP_ne h5]
   have e5 := beqP_iff.2 h5
   by_cases h6 : a.by_ = b.by_
   rotate_left
   · have hne : a ≠ b := by rintro rfl; exact h6 rfl
     simp [↓ev_loop, ev, evOps, evOp, wants, req, reqCall, inOf, evOpd, ofConst, ofCell, hands, Ann.mem, Env.get, Env.set, gives, handT, Op.operands, Call.operands, meet, putD, params, AV.strip, keepAt, lookN, Env.keep, binAV, intBinAV, headId, tidy, flagOp, nilConst, List.filterMap_cons, List.filterMap_nil, outOf, resAll, resOf, reifyR, reify, reifyP, clo, cloL, cloLL, cloEnv, loadBox, storeBox, okPut, buildElems, buildCells, int_beq, int_bne, h1, h2, h3, beqP_ne hne, hr5, e5, hrk, beqP_ne h6, S]
   simp only [Bool.and_eq_true, beqP_iff] at k1 k2 k3
   obtain ⟨⟨⟨⟨⟨q1, q2⟩, q3⟩, q4⟩, q5⟩, q6⟩ := k1
   obtain ⟨⟨⟨q7, q8⟩, q9⟩, q10⟩ := k2
   obtain ⟨⟨⟨q11, q12⟩, q13⟩, q14⟩ := k3
   have hab : beqP a b = true := beqP_iff.2 (item_ext q1 q2 q3 q7 q8 q10 q4 q5 q6 q9 q11 q12 q13 q14 h5 h6)
   have e6 := beqP_iff.2 h6
   simp [↓ev_loop, ev, evOps, evOp, wants, req, reqCall, inOf, evOpd, ofConst, ofCell, hands, Ann.mem, Env.get, Env.set, gives, handT, Op.operands, Call.operands, meet, putD, params, AV.strip, keepAt, lookN, Env.keep, binAV, intBinAV, headId, tidy, flagOp, nilConst, List.filterMap_cons, List.filterMap_nil, outOf, resAll, resOf, reifyR, reify, reifyP, clo, cloL, cloLL, cloEnv, loadBox, storeBox, okPut, buildElems, buildCells, int_beq, int_bne, h1, h2, h3, hab, hr5, e5, hrk, e6, S]
end Go.Proofs.Ytlpilgnjlnepeaa.T
namespace Go.Proofs.Ytlpilgnjlnepeaa.T
open Go.VM Go.Proofs
set_option linter.unusedSimpArgs false
set_option maxHeartbeats 16000000
set_option maxRecDepth 10000

theorem lp74 (l : List Word) (bs : List Nat) (H : List AO) (c0 : Code) (hc0 : (loops (Try.f74.body.getD .skip))[0]? = some c0) (hl : l.length ≤ 4000000000000000000) :
    ∃ x e' H', lev Try.prog an74 (callD X) c0 bs ((fun s : Nat => [(0, S cWord l), (3, I s)]) (0)) ((fun s : Nat => H) (0)) = some (x, e', H') ∧ (H' = H ∧ ((x = .exit 0 ∧ e'.get 0 = S cWord l) ∨ (x = .ret ∧ e'.get 2 = .bool false))) := by
  simp only [Try.f74, loops, List.cons_append, List.nil_append, List.append_nil, List.getElem?_cons_zero, List.getElem?_cons_succ, Option.getD_some, Option.some.injEq] at hc0
  refine lev_inv (σ := Nat) (fun s => [(0, S cWord l), (3, I s)]) (fun s => H) (fun s => s ≤ l.length) (fun s => l.length - s) (fun x e' H' => H' = H ∧ ((x = .exit 0 ∧ e'.get 0 = S cWord l) ∨ (x = .ret ∧ e'.get 2 = .bool false))) (0) ?_ ?_ ?_ ?_ ?_
  · simp
  · intro s hs; simp
  · intro s hs; simp [cloEnv, clo, S]
  · intro s hs; subst hc0; simp [keepAt, headId, lookN, Env.keep, Env.get]
  intro s hs
  subst hc0
  rcases Nat.lt_or_ge s l.length with hlt | hge
  · have h0 : (s : Int) < (l.length : Int) := by omega
    have hw := wrap_s s (by omega)
    have hg : l[s]? = some l[s] := by simp [hlt]
    generalize l[s] = g at hg
    by_cases h1 : (100 : Int) < g.text.size
    · right; simp [↓ev_loop, ev, evOps, evOp, wants, req, reqCall, inOf, evOpd, ofConst, ofCell, hands, Ann.mem, Env.get, Env.set, gives, handT, Op.operands, Call.operands, meet, putD, params, AV.strip, keepAt, lookN, Env.keep, binAV, intBinAV, headId, tidy, flagOp, nilConst, List.filterMap_cons, List.filterMap_nil, outOf, resAll, resOf, reifyR, reify, reifyP, clo, cloL, cloLL, cloEnv, loadBox, storeBox, okPut, buildElems, buildCells, int_beq, int_bne, h0, hw, hg, h1, S]
    · left; exact ⟨s + 1, by simp [↓ev_loop, ev, evOps, evOp, wants, req, reqCall, inOf, evOpd, ofConst, ofCell, hands, Ann.mem, Env.get, Env.set, gives, handT, Op.operands, Call.operands, meet, putD, params, AV.strip, keepAt, lookN, Env.keep, binAV, intBinAV, headId, tidy, flagOp, nilConst, List.filterMap_cons, List.filterMap_nil, outOf, resAll, resOf, reifyR, reify, reifyP, clo, cloL, cloLL, cloEnv, loadBox, storeBox, okPut, buildElems, buildCells, int_beq, int_bne, h0, hw, hg, h1, S], hlt, by omega⟩
  · right
    have h0 : ¬ (s : Int) < (l.length : Int) := by omega
    simp [↓ev_loop, ev, evOps, evOp, wants, req, reqCall, inOf, evOpd, ofConst, ofCell, hands, Ann.mem, Env.get, Env.set, gives, handT, Op.operands, Call.operands, meet, putD, params, AV.strip, keepAt, lookN, Env.keep, binAV, intBinAV, headId, tidy, flagOp, nilConst, List.filterMap_cons, List.filterMap_nil, outOf, resAll, resOf, reifyR, reify, reifyP, clo, cloL, cloLL, cloEnv, loadBox, storeBox, okPut, buildElems, buildCells, int_beq, int_bne, h0, S]
theorem ex74 (l : List Word) (hl : l.length ≤ 4000000000000000000) (bs : List Nat) (H : List AO) : ∃ r, callD X 74 [S cWord l] bs H = some (.bool r, H) := by
  rw [callD_eq]
  simp only [Xprim]
  unfold runBody
  simp only [XP, Try.func74, Xan74, Xok74]
  obtain ⟨c0, hc0⟩ : ∃ c, (loops (Try.f74.body.getD .skip))[0]? = some c := ⟨_, rfl⟩
  have hd0 := hc0
  simp only [Try.f74, loops, List.cons_append, List.nil_append, List.append_nil, List.getElem?_cons_zero, List.getElem?_cons_succ, Option.getD_some, Option.some.injEq] at hd0
  simp only [Try.f74]
  rw [hd0]
  obtain ⟨x, e', H', h1, rfl, h2⟩ := lp74 l (H.length :: bs) H c0 hc0 hl
  simp only [S, List.map_nil, Int.ofNat_eq_natCast, Int.natCast_zero, List.length_append, List.length_cons, List.length_nil, Nat.zero_add, Nat.reduceAdd] at h1
  rcases h2 with ⟨rfl, h3⟩ | ⟨rfl, h3⟩
  · simp [↓ev_loop, ev, evOps, evOp, wants, req, reqCall, inOf, evOpd, ofConst, ofCell, hands, Ann.mem, Env.get, Env.set, gives, handT, Op.operands, Call.operands, meet, putD, params, AV.strip, keepAt, lookN, Env.keep, binAV, intBinAV, headId, tidy, flagOp, nilConst, List.filterMap_cons, List.filterMap_nil, outOf, resAll, resOf, reifyR, reify, reifyP, clo, cloL, cloLL, cloEnv, loadBox, storeBox, okPut, buildElems, buildCells, int_beq, int_bne, h1, h3, S]
  · simp [↓ev_loop, ev, evOps, evOp, wants, req, reqCall, inOf, evOpd, ofConst, ofCell, hands, Ann.mem, Env.get, Env.set, gives, handT, Op.operands, Call.operands, meet, putD, params, AV.strip, keepAt, lookN, Env.keep, binAV, intBinAV, headId, tidy, flagOp, nilConst, List.filterMap_cons, List.filterMap_nil, outOf, resAll, resOf, reifyR, reify, reifyP, clo, cloL, cloLL, cloEnv, loadBox, storeBox, okPut, buildElems, buildCells, int_beq, int_bne, h1, h3, S]

theorem lp64 (u : Unit) (p : Nat) (bs : List Nat) (H : List AO) (c0 : Code) (hc0 : (loops (Try.f64.body.getD .skip))[0]? = some c0) (hA : H[p]? = some (.box (cUnit u))) (hl : u.kids.length ≤ 4000000000000000000) (ih : ∀ x ∈ u.kids, ∀ bs H, ∃ r, callD X 64 [.agg (cUnit x)] bs H = some (.bool r, H)) :
    ∃ x e' H', lev Try.prog an64 (callD X) c0 bs ((fun s : Nat => [(1, .ptr p 0), (3, I s)]) (0)) ((fun s : Nat => H) (0)) = some (x, e', H') ∧ (H' = H ∧ (x = .exit 0 ∨ (x = .ret ∧ e'.get 2 = .bool false))) := by
  simp only [Try.f64, loops, List.cons_append, List.nil_append, List.append_nil, List.getElem?_cons_zero, List.getElem?_cons_succ, Option.getD_some, Option.some.injEq] at hc0
  refine lev_inv (σ := Nat) (fun s => [(1, .ptr p 0), (3, I s)]) (fun s => H) (fun s => s ≤ u.kids.length) (fun s => u.kids.length - s) (fun x e' H' => H' = H ∧ (x = .exit 0 ∨ (x = .ret ∧ e'.get 2 = .bool false))) (0) ?_ ?_ ?_ ?_ ?_
  · simp
  · intro s hs; simp
  · intro s hs; simp [cloEnv, clo, lt_of_get hA]
  · intro s hs; subst hc0; simp [keepAt, headId, lookN, Env.keep, Env.get]
  intro s hs
  subst hc0
  have hp := lt_of_get hA
  rcases Nat.lt_or_ge s u.kids.length with hlt | hge
  · have h0 : (s : Int) < (u.kids.length : Int) := by omega
    have hw := wrap_s s (by omega)
    have hg : u.kids[s]? = some u.kids[s] := by simp [hlt]
    obtain ⟨r, h1⟩ := ih u.kids[s] (List.getElem_mem hlt) (H.length :: bs) H
    generalize u.kids[s] = g at hg h1
    cases r
    · right; simp [↓ev_loop, ev, evOps, evOp, wants, req, reqCall, inOf, evOpd, ofConst, ofCell, hands, Ann.mem, Env.get, Env.set, gives, handT, Op.operands, Call.operands, meet, putD, params, AV.strip, keepAt, lookN, Env.keep, binAV, intBinAV, headId, tidy, flagOp, nilConst, List.filterMap_cons, List.filterMap_nil, outOf, resAll, resOf, reifyR, reify, reifyP, clo, cloL, cloLL, cloEnv, loadBox, storeBox, okPut, buildElems, buildCells, int_beq, int_bne, h0, hw, hg, h1, hA, S]
    · left; exact ⟨s + 1, by simp [↓ev_loop, ev, evOps, evOp, wants, req, reqCall, inOf, evOpd, ofConst, ofCell, hands, Ann.mem, Env.get, Env.set, gives, handT, Op.operands, Call.operands, meet, putD, params, AV.strip, keepAt, lookN, Env.keep, binAV, intBinAV, headId, tidy, flagOp, nilConst, List.filterMap_cons, List.filterMap_nil, outOf, resAll, resOf, reifyR, reify, reifyP, clo, cloL, cloLL, cloEnv, loadBox, storeBox, okPut, buildElems, buildCells, int_beq, int_bne, h0, hw, hg, h1, hA, S], hlt, by omega⟩
  · right
    have h0 : ¬ (s : Int) < (u.kids.length : Int) := by omega
    simp [↓ev_loop, ev, evOps, evOp, wants, req, reqCall, inOf, evOpd, ofConst, ofCell, hands, Ann.mem, Env.get, Env.set, gives, handT, Op.operands, Call.operands, meet, putD, params, AV.strip, keepAt, lookN, Env.keep, binAV, intBinAV, headId, tidy, flagOp, nilConst, List.filterMap_cons, List.filterMap_nil, outOf, resAll, resOf, reifyR, reify, reifyP, clo, cloL, cloLL, cloEnv, loadBox, storeBox, okPut, buildElems, buildCells, int_beq, int_bne, h0, hA, S]
theorem ex64 : ∀ (n : Nat) (u : Unit), SizeOf.sizeOf u < n → wfU u → ∀ bs H, ∃ r, callD X 64 [.agg (cUnit u)] bs H = some (.bool r, H) := by
  intro n
  induction n with
  | zero => intro a h; omega
  | succ n ih =>
   intro u hn hw bs H
   obtain ⟨hhl, hwl, hkl, hwk⟩ := (wfU_eq u).1 hw
   have ih' : ∀ x ∈ u.kids, ∀ bs H, ∃ r, callD X 64 [.agg (cUnit x)] bs H = some (.bool r, H) := fun x hx bs H => ih x (by have := size_kids hx; omega) (hwk x hx) bs H
   obtain ⟨x, e', H', h1, h2⟩ : ∃ x e' H', True ∧ True := ⟨Ex.ret, ([] : Env), ([] : List AO), trivial, trivial⟩
   obtain ⟨r1, hr1⟩ := ex74 u.head hhl ((H.length + 2 - 1) :: H.length :: bs) (H ++ [.box (cUnit u)])
   obtain ⟨r1, hr1⟩ := ex74 u.head hhl (H.length :: bs) (H ++ [.box (cUnit u)])
   obtain ⟨r2, hr2⟩ := ex74 u.words hwl (H.length :: bs) (H ++ [.box (cUnit u)])
   simp only [S] at hr1 hr2
   rw [callD_eq]
   simp only [Xprim]
   unfold runBody
   simp only [XP, Try.func64, Xan64, Xok64]
   obtain ⟨c0, hc0⟩ : ∃ c, (loops (Try.f64.body.getD .skip))[0]? = some c := ⟨_, rfl⟩
   have hd0 := hc0
   simp only [Try.f64, loops, List.cons_append, List.nil_append, List.append_nil, List.getElem?_cons_zero, List.getElem?_cons_succ, Option.getD_some, Option.some.injEq] at hd0
   simp only [Try.f64]
   rw [hd0]
   obtain ⟨x, e', H', h1, rfl, h2⟩ := lp64 u H.length (H.length :: bs) (H ++ [.box (cUnit u)]) c0 hc0 (by simp) hkl ih'
   simp only [S, List.map_nil, Int.ofNat_eq_natCast, Int.natCast_zero, List.length_append, List.length_cons, List.length_nil, Nat.zero_add, Nat.reduceAdd] at h1
   by_cases h3 : (30 : Int) < u.label.size
   · simp [↓ev_loop, ev, evOps, evOp, wants, req, reqCall, inOf, evOpd, ofConst, ofCell, hands, Ann.mem, Env.get, Env.set, gives, handT, Op.operands, Call.operands, meet, putD, params, AV.strip, keepAt, lookN, Env.keep, binAV, intBinAV, headId, tidy, flagOp, nilConst, List.filterMap_cons, List.filterMap_nil, outOf, resAll, resOf, reifyR, reify, reifyP, clo, cloL, cloLL, cloEnv, loadBox, storeBox, okPut, buildElems, buildCells, int_beq, int_bne, h3, S]
   · cases r1
     · simp [↓ev_loop, ev, evOps, evOp, wants, req, reqCall, inOf, evOpd, ofConst, ofCell, hands, Ann.mem, Env.get, Env.set, gives, handT, Op.operands, Call.operands, meet, putD, params, AV.strip, keepAt, lookN, Env.keep, binAV, intBinAV, headId, tidy, flagOp, nilConst, List.filterMap_cons, List.filterMap_nil, outOf, resAll, resOf, reifyR, reify, reifyP, clo, cloL, cloLL, cloEnv, loadBox, storeBox, okPut, buildElems, buildCells, int_beq, int_bne, h3, hr1, S]
     · cases r2
       · simp [↓ev_loop, ev, evOps, evOp, wants, req, reqCall, inOf, evOpd, ofConst, ofCell, hands, Ann.mem, Env.get, Env.set, gives, handT, Op.operands, Call.operands, meet, putD, params, AV.strip, keepAt, lookN, Env.keep, binAV, intBinAV, headId, tidy, flagOp, nilConst, List.filterMap_cons, List.filterMap_nil, outOf, resAll, resOf, reifyR, reify, reifyP, clo, cloL, cloLL, cloEnv, loadBox, storeBox, okPut, buildElems, buildCells, int_beq, int_bne, h3, hr1, hr2, S]
       · rcases h2 with rfl | ⟨rfl, h2⟩ <;> simp [↓ev_loop, ev, evOps, evOp, wants, req, reqCall, inOf, evOpd, ofConst, ofCell, hands, Ann.mem, Env.get, Env.set, gives, handT, Op.operands, Call.operands, meet, putD, params, AV.strip, keepAt, lookN, Env.keep, binAV, intBinAV, headId, tidy, flagOp, nilConst, List.filterMap_cons, List.filterMap_nil, outOf, resAll, resOf, reifyR, reify, reifyP, clo, cloL, cloLL, cloEnv, loadBox, storeBox, okPut, buildElems, buildCells, int_beq, int_bne, h3, hr1, hr2, h1, h2, S]

theorem lp63 (u : Unit) (p : Nat) (d m : Int) (bs : List Nat) (H : List AO) (c0 : Code) (hc0 : (loops (Try.f63.body.getD .skip))[0]? = some c0) (hA : H[p]? = some (.box (cUnit u))) (hl : u.kids.length ≤ 4000000000000000000) (ih : ∀ x ∈ u.kids, ∀ d m bs H, ∃ r, callD X 63 [.agg (cUnit x), I d, I m] bs H = some (I r, H)) :
    ∃ x e' H', lev Try.prog an63 (callD X) c0 bs ((fun s : Nat × Int => [(1, I d), (2, I m), (3, .ptr p 0), (7, I s.2), (8, I s.1)]) ((0, 1))) ((fun s : Nat × Int => H) ((0, 1))) = some (x, e', H') ∧ (H' = H ∧ x = .exit 0 ∧ ∃ r, e'.get 7 = I r) := by
  simp only [Try.f63, loops, List.cons_append, List.nil_append, List.append_nil, List.getElem?_cons_zero, List.getElem?_cons_succ, Option.getD_some, Option.some.injEq] at hc0
  refine lev_inv (σ := Nat × Int) (fun s => [(1, I d), (2, I m), (3, .ptr p 0), (7, I s.2), (8, I s.1)]) (fun s => H) (fun s => s.1 ≤ u.kids.length) (fun s => u.kids.length - s.1) (fun x e' H' => H' = H ∧ x = .exit 0 ∧ ∃ r, e'.get 7 = I r) ((0, 1)) ?_ ?_ ?_ ?_ ?_
  · simp
  · intro s hs; simp
  · intro s hs; simp [cloEnv, clo, lt_of_get hA]
  · intro s hs; subst hc0; simp [keepAt, headId, lookN, Env.keep, Env.get]
  intro s hs
  subst hc0
  obtain ⟨s, v⟩ := s
  simp only at hs ⊢
  have hp := lt_of_get hA
  rcases Nat.lt_or_ge s u.kids.length with hlt | hge
  · have h0 : (s : Int) < (u.kids.length : Int) := by omega
    have hw := wrap_s s (by omega)
    have hg : u.kids[s]? = some u.kids[s] := by simp [hlt]
    by_cases hv : v ≤ m
    · left
      obtain ⟨r, h1⟩ := ih u.kids[s] (List.getElem_mem hlt) (IntKind.i64.wrap (d + 1)) (IntKind.i64.wrap (m - v)) (H.length :: bs) H
      generalize u.kids[s] = g at hg h1
      refine ⟨(s + 1, IntKind.i64.wrap (v + r)), ?_, hlt, by simp only; omega⟩
      simp [↓ev_loop, ev, evOps, evOp, wants, req, reqCall, inOf, evOpd, ofConst, ofCell, hands, Ann.mem, Env.get, Env.set, gives, handT, Op.operands, Call.operands, meet, putD, params, AV.strip, keepAt, lookN, Env.keep, binAV, intBinAV, headId, tidy, flagOp, nilConst, List.filterMap_cons, List.filterMap_nil, outOf, resAll, resOf, reifyR, reify, reifyP, clo, cloL, cloLL, cloEnv, loadBox, storeBox, okPut, buildElems, buildCells, int_beq, int_bne, h0, hw, hg, hv, h1, hA, S]
    · right
      simp [↓ev_loop, ev, evOps, evOp, wants, req, reqCall, inOf, evOpd, ofConst, ofCell, hands, Ann.mem, Env.get, Env.set, gives, handT, Op.operands, Call.operands, meet, putD, params, AV.strip, keepAt, lookN, Env.keep, binAV, intBinAV, headId, tidy, flagOp, nilConst, List.filterMap_cons, List.filterMap_nil, outOf, resAll, resOf, reifyR, reify, reifyP, clo, cloL, cloLL, cloEnv, loadBox, storeBox, okPut, buildElems, buildCells, int_beq, int_bne, h0, hv, hA, S]
  · right
    have h0 : ¬ (s : Int) < (u.kids.length : Int) := by omega
    simp [↓ev_loop, ev, evOps, evOp, wants, req, reqCall, inOf, evOpd, ofConst, ofCell, hands, Ann.mem, Env.get, Env.set, gives, handT, Op.operands, Call.operands, meet, putD, params, AV.strip, keepAt, lookN, Env.keep, binAV, intBinAV, headId, tidy, flagOp, nilConst, List.filterMap_cons, List.filterMap_nil, outOf, resAll, resOf, reifyR, reify, reifyP, clo, cloL, cloLL, cloEnv, loadBox, storeBox, okPut, buildElems, buildCells, int_beq, int_bne, h0, hA, S]
theorem ex63 : ∀ (n : Nat) (u : Unit), SizeOf.sizeOf u < n → wfU u → ∀ d m bs H, ∃ r, callD X 63 [.agg (cUnit u), I d, I m] bs H = some (I r, H) := by
  intro n
  induction n with
  | zero => intro a h; omega
  | succ n ih =>
   intro u hn hw d m bs H
   obtain ⟨hhl, hwl, hkl, hwk⟩ := (wfU_eq u).1 hw
   have ih' : ∀ x ∈ u.kids, ∀ d m bs H, ∃ r, callD X 63 [.agg (cUnit x), I d, I m] bs H = some (I r, H) := fun x hx d m bs H => ih x (by have := size_kids hx; omega) (hwk x hx) d m bs H
   rw [callD_eq]
   simp only [Xprim]
   unfold runBody
   simp only [XP, Try.func63, Xan63, Xok63]
   obtain ⟨c0, hc0⟩ : ∃ c, (loops (Try.f63.body.getD .skip))[0]? = some c := ⟨_, rfl⟩
   have hd0 := hc0
   simp only [Try.f63, loops, List.cons_append, List.nil_append, List.append_nil, List.getElem?_cons_zero, List.getElem?_cons_succ, Option.getD_some, Option.some.injEq] at hd0
   simp only [Try.f63]
   rw [hd0]
   obtain ⟨x, e', H', h1, rfl, rfl, r, h2⟩ := lp63 u H.length d m (H.length :: bs) (H ++ [.box (cUnit u)]) c0 hc0 (by simp) hkl ih'
   simp only [S, List.map_nil, Int.ofNat_eq_natCast, Int.natCast_zero, List.length_append, List.length_cons, List.length_nil, Nat.zero_add, Nat.reduceAdd] at h1
   by_cases h3 : 20 < d
   · simp [↓ev_loop, ev, evOps, evOp, wants, req, reqCall, inOf, evOpd, ofConst, ofCell, hands, Ann.mem, Env.get, Env.set, gives, handT, Op.operands, Call.operands, meet, putD, params, AV.strip, keepAt, lookN, Env.keep, binAV, intBinAV, headId, tidy, flagOp, nilConst, List.filterMap_cons, List.filterMap_nil, outOf, resAll, resOf, reifyR, reify, reifyP, clo, cloL, cloLL, cloEnv, loadBox, storeBox, okPut, buildElems, buildCells, int_beq, int_bne, h3, S]
   · simp [↓ev_loop, ev, evOps, evOp, wants, req, reqCall, inOf, evOpd, ofConst, ofCell, hands, Ann.mem, Env.get, Env.set, gives, handT, Op.operands, Call.operands, meet, putD, params, AV.strip, keepAt, lookN, Env.keep, binAV, intBinAV, headId, tidy, flagOp, nilConst, List.filterMap_cons, List.filterMap_nil, outOf, resAll, resOf, reifyR, reify, reifyP, clo, cloL, cloLL, cloEnv, loadBox, storeBox, okPut, buildElems, buildCells, int_beq, int_bne, h3, h1, h2, S]
theorem ex54 (u : Unit) (hw : wfU u) (m : Int) (bs : List Nat) (H : List AO) : ∃ r, callD X 54 [.agg (cUnit u), I m] bs H = some (.bool r, H) := by
  obtain ⟨r1, hr1⟩ := ex63 _ u (Nat.lt_succ_self _) hw 0 m (H.length :: bs) (H ++ [.box (cUnit u)])
  obtain ⟨r2, hr2⟩ := ex64 _ u (Nat.lt_succ_self _) hw (H.length :: bs) (H ++ [.box (cUnit u)])
  rw [callD_eq]
  simp only [Xprim]
  unfold runBody
  simp only [XP, Try.func54, Xan54, Xok54]
  by_cases h : r1 ≤ m
  · simp [Try.f54, ↓ev_loop, ev, evOps, evOp, wants, req, reqCall, inOf, evOpd, ofConst, ofCell, hands, Ann.mem, Env.get, Env.set, gives, handT, Op.operands, Call.operands, meet, putD, params, AV.strip, keepAt, lookN, Env.keep, binAV, intBinAV, headId, tidy, flagOp, nilConst, List.filterMap_cons, List.filterMap_nil, outOf, resAll, resOf, reifyR, reify, reifyP, clo, cloL, cloLL, cloEnv, loadBox, storeBox, okPut, buildElems, buildCells, int_beq, int_bne, hr1, hr2, h]
  · simp [Try.f54, ↓ev_loop, ev, evOps, evOp, wants, req, reqCall, inOf, evOpd, ofConst, ofCell, hands, Ann.mem, Env.get, Env.set, gives, handT, Op.operands, Call.operands, meet, putD, params, AV.strip, keepAt, lookN, Env.keep, binAV, intBinAV, headId, tidy, flagOp, nilConst, List.filterMap_cons, List.filterMap_nil, outOf, resAll, resOf, reifyR, reify, reifyP, clo, cloL, cloLL, cloEnv, loadBox, storeBox, okPut, buildElems, buildCells, int_beq, int_bne, hr1, hr2, h]
end Go.Proofs.Ytlpilgnjlnepeaa.T
namespace Go.Proofs.Ytlpilgnjlnepeaa.T
open Go.VM Go.Proofs
set_option linter.unusedSimpArgs false
set_option maxHeartbeats 16000000
set_option maxRecDepth 10000

theorem lp29_0 (x0 : Item) (p : Nat) (bs : List Nat) (H : List AO) (c0 : Code) (hc0 : (loops (Try.f29.body.getD .skip))[0]? = some c0) (hA : H[p]? = some (.box (cItem x0))) (hl : x0.old.length ≤ 4000000000000000000) :
    ∃ x e' H', lev Try.prog an29 (callD X) c0 bs ((fun s : Nat => [(1, .ptr p 0), (3, I s)]) (0)) ((fun s : Nat => H) (0)) = some (x, e', H') ∧ (H' = H ∧ ((x = .exit 0 ∧ e'.get 1 = .ptr p 0) ∨ (x = .ret ∧ e'.get 2 = .bool false))) := by
  simp only [Try.f29, loops, List.cons_append, List.nil_append, List.append_nil, List.getElem?_cons_zero, List.getElem?_cons_succ, Option.getD_some, Option.some.injEq] at hc0
  refine lev_inv (σ := Nat) (fun s => [(1, .ptr p 0), (3, I s)]) (fun s => H) (fun s => s ≤ x0.old.length) (fun s => x0.old.length - s) (fun x e' H' => H' = H ∧ ((x = .exit 0 ∧ e'.get 1 = .ptr p 0) ∨ (x = .ret ∧ e'.get 2 = .bool false))) (0) ?_ ?_ ?_ ?_ ?_
  · simp
  · intro s hs; simp
  · intro s hs; simp [cloEnv, clo, lt_of_get hA]
  · intro s hs; subst hc0; simp [keepAt, headId, lookN, Env.keep, Env.get]
  intro s hs
  subst hc0
  have hp := lt_of_get hA
  rcases Nat.lt_or_ge s x0.old.length with hlt | hge
  · have h0 : (s : Int) < (x0.old.length : Int) := by omega
    have hw := wrap_s s (by omega)
    have hg : x0.old[s]? = some x0.old[s] := by simp [hlt]
    generalize x0.old[s] = g at hg
    by_cases h1 : (100 : Int) < g.size
    · right; simp [↓ev_loop, ev, evOps, evOp, wants, req, reqCall, inOf, evOpd, ofConst, ofCell, hands, Ann.mem, Env.get, Env.set, gives, handT, Op.operands, Call.operands, meet, putD, params, AV.strip, keepAt, lookN, Env.keep, binAV, intBinAV, headId, tidy, flagOp, nilConst, List.filterMap_cons, List.filterMap_nil, outOf, resAll, resOf, reifyR, reify, reifyP, clo, cloL, cloLL, cloEnv, loadBox, storeBox, okPut, buildElems, buildCells, int_beq, int_bne, h0, hw, hg, h1, hA, S]
    · left; exact ⟨s + 1, by simp [↓ev_loop, ev, evOps, evOp, wants, req, reqCall, inOf, evOpd, ofConst, ofCell, hands, Ann.mem, Env.get, Env.set, gives, handT, Op.operands, Call.operands, meet, putD, params, AV.strip, keepAt, lookN, Env.keep, binAV, intBinAV, headId, tidy, flagOp, nilConst, List.filterMap_cons, List.filterMap_nil, outOf, resAll, resOf, reifyR, reify, reifyP, clo, cloL, cloLL, cloEnv, loadBox, storeBox, okPut, buildElems, buildCells, int_beq, int_bne, h0, hw, hg, h1, hA, S], hlt, by omega⟩
  · right
    have h0 : ¬ (s : Int) < (x0.old.length : Int) := by omega
    simp [↓ev_loop, ev, evOps, evOp, wants, req, reqCall, inOf, evOpd, ofConst, ofCell, hands, Ann.mem, Env.get, Env.set, gives, handT, Op.operands, Call.operands, meet, putD, params, AV.strip, keepAt, lookN, Env.keep, binAV, intBinAV, headId, tidy, flagOp, nilConst, List.filterMap_cons, List.filterMap_nil, outOf, resAll, resOf, reifyR, reify, reifyP, clo, cloL, cloLL, cloEnv, loadBox, storeBox, okPut, buildElems, buildCells, int_beq, int_bne, h0, hA, S]

theorem lp29_1 (x0 : Item) (p : Nat) (bs : List Nat) (H : List AO) (c1 : Code) (hc1 : (loops (Try.f29.body.getD .skip))[1]? = some c1) (hA : H[p]? = some (.box (cItem x0))) (hl : x0.new.length ≤ 4000000000000000000) :
    ∃ x e' H', lev Try.prog an29 (callD X) c1 bs ((fun s : Nat => [(1, .ptr p 0), (4, I s)]) (0)) ((fun s : Nat => H) (0)) = some (x, e', H') ∧ (H' = H ∧ ((x = .exit 2 ∧ e'.get 1 = .ptr p 0) ∨ (x = .ret ∧ e'.get 2 = .bool false))) := by
  simp only [Try.f29, loops, List.cons_append, List.nil_append, List.append_nil, List.getElem?_cons_zero, List.getElem?_cons_succ, Option.getD_some, Option.some.injEq] at hc1
  refine lev_inv (σ := Nat) (fun s => [(1, .ptr p 0), (4, I s)]) (fun s => H) (fun s => s ≤ x0.new.length) (fun s => x0.new.length - s) (fun x e' H' => H' = H ∧ ((x = .exit 2 ∧ e'.get 1 = .ptr p 0) ∨ (x = .ret ∧ e'.get 2 = .bool false))) (0) ?_ ?_ ?_ ?_ ?_
  · simp
  · intro s hs; simp
  · intro s hs; simp [cloEnv, clo, lt_of_get hA]
  · intro s hs; subst hc1; simp [keepAt, headId, lookN, Env.keep, Env.get]
  intro s hs
  subst hc1
  have hp := lt_of_get hA
  rcases Nat.lt_or_ge s x0.new.length with hlt | hge
  · have h0 : (s : Int) < (x0.new.length : Int) := by omega
    have hw := wrap_s s (by omega)
    have hg : x0.new[s]? = some x0.new[s] := by simp [hlt]
    generalize x0.new[s] = g at hg
    by_cases h1 : (100 : Int) < g.size
    · right; simp [↓ev_loop, ev, evOps, evOp, wants, req, reqCall, inOf, evOpd, ofConst, ofCell, hands, Ann.mem, Env.get, Env.set, gives, handT, Op.operands, Call.operands, meet, putD, params, AV.strip, keepAt, lookN, Env.keep, binAV, intBinAV, headId, tidy, flagOp, nilConst, List.filterMap_cons, List.filterMap_nil, outOf, resAll, resOf, reifyR, reify, reifyP, clo, cloL, cloLL, cloEnv, loadBox, storeBox, okPut, buildElems, buildCells, int_beq, int_bne, h0, hw, hg, h1, hA, S]
    · left; exact ⟨s + 1, by simp [↓ev_loop, ev, evOps, evOp, wants, req, reqCall, inOf, evOpd, ofConst, ofCell, hands, Ann.mem, Env.get, Env.set, gives, handT, Op.operands, Call.operands, meet, putD, params, AV.strip, keepAt, lookN, Env.keep, binAV, intBinAV, headId, tidy, flagOp, nilConst, List.filterMap_cons, List.filterMap_nil, outOf, resAll, resOf, reifyR, reify, reifyP, clo, cloL, cloLL, cloEnv, loadBox, storeBox, okPut, buildElems, buildCells, int_beq, int_bne, h0, hw, hg, h1, hA, S], hlt, by omega⟩
  · right
    have h0 : ¬ (s : Int) < (x0.new.length : Int) := by omega
    simp [↓ev_loop, ev, evOps, evOp, wants, req, reqCall, inOf, evOpd, ofConst, ofCell, hands, Ann.mem, Env.get, Env.set, gives, handT, Op.operands, Call.operands, meet, putD, params, AV.strip, keepAt, lookN, Env.keep, binAV, intBinAV, headId, tidy, flagOp, nilConst, List.filterMap_cons, List.filterMap_nil, outOf, resAll, resOf, reifyR, reify, reifyP, clo, cloL, cloLL, cloEnv, loadBox, storeBox, okPut, buildElems, buildCells, int_beq, int_bne, h0, hA, S]

theorem lp29_2 (x0 : Item) (p : Nat) (bs : List Nat) (H : List AO) (c2 : Code) (hc2 : (loops (Try.f29.body.getD .skip))[2]? = some c2) (hA : H[p]? = some (.box (cItem x0))) (hl : x0.at_.length ≤ 4000000000000000000) :
    ∃ x e' H', lev Try.prog an29 (callD X) c2 bs ((fun s : Nat => [(1, .ptr p 0), (5, I s)]) (0)) ((fun s : Nat => H) (0)) = some (x, e', H') ∧ (H' = H ∧ ((x = .exit 4 ∧ e'.get 1 = .ptr p 0) ∨ (x = .ret ∧ e'.get 2 = .bool false))) := by
  simp only [Try.f29, loops, List.cons_append, List.nil_append, List.append_nil, List.getElem?_cons_zero, List.getElem?_cons_succ, Option.getD_some, Option.some.injEq] at hc2
  refine lev_inv (σ := Nat) (fun s => [(1, .ptr p 0), (5, I s)]) (fun s => H) (fun s => s ≤ x0.at_.length) (fun s => x0.at_.length - s) (fun x e' H' => H' = H ∧ ((x = .exit 4 ∧ e'.get 1 = .ptr p 0) ∨ (x = .ret ∧ e'.get 2 = .bool false))) (0) ?_ ?_ ?_ ?_ ?_
  · simp
  · intro s hs; simp
  · intro s hs; simp [cloEnv, clo, lt_of_get hA]
  · intro s hs; subst hc2; simp [keepAt, headId, lookN, Env.keep, Env.get]
  intro s hs
  subst hc2
  have hp := lt_of_get hA
  rcases Nat.lt_or_ge s x0.at_.length with hlt | hge
  · have h0 : (s : Int) < (x0.at_.length : Int) := by omega
    have hw := wrap_s s (by omega)
    have hg : x0.at_[s]? = some x0.at_[s] := by simp [hlt]
    generalize x0.at_[s] = g at hg
    by_cases h1 : (100 : Int) < g.label.size
    · right; simp [↓ev_loop, ev, evOps, evOp, wants, req, reqCall, inOf, evOpd, ofConst, ofCell, hands, Ann.mem, Env.get, Env.set, gives, handT, Op.operands, Call.operands, meet, putD, params, AV.strip, keepAt, lookN, Env.keep, binAV, intBinAV, headId, tidy, flagOp, nilConst, List.filterMap_cons, List.filterMap_nil, outOf, resAll, resOf, reifyR, reify, reifyP, clo, cloL, cloLL, cloEnv, loadBox, storeBox, okPut, buildElems, buildCells, int_beq, int_bne, h0, hw, hg, h1, hA, S]
    · left; exact ⟨s + 1, by simp [↓ev_loop, ev, evOps, evOp, wants, req, reqCall, inOf, evOpd, ofConst, ofCell, hands, Ann.mem, Env.get, Env.set, gives, handT, Op.operands, Call.operands, meet, putD, params, AV.strip, keepAt, lookN, Env.keep, binAV, intBinAV, headId, tidy, flagOp, nilConst, List.filterMap_cons, List.filterMap_nil, outOf, resAll, resOf, reifyR, reify, reifyP, clo, cloL, cloLL, cloEnv, loadBox, storeBox, okPut, buildElems, buildCells, int_beq, int_bne, h0, hw, hg, h1, hA, S], hlt, by omega⟩
  · right
    have h0 : ¬ (s : Int) < (x0.at_.length : Int) := by omega
    simp [↓ev_loop, ev, evOps, evOp, wants, req, reqCall, inOf, evOpd, ofConst, ofCell, hands, Ann.mem, Env.get, Env.set, gives, handT, Op.operands, Call.operands, meet, putD, params, AV.strip, keepAt, lookN, Env.keep, binAV, intBinAV, headId, tidy, flagOp, nilConst, List.filterMap_cons, List.filterMap_nil, outOf, resAll, resOf, reifyR, reify, reifyP, clo, cloL, cloLL, cloEnv, loadBox, storeBox, okPut, buildElems, buildCells, int_beq, int_bne, h0, hA, S]

theorem lp29_3 (x0 : Item) (p : Nat) (bs : List Nat) (H : List AO) (c3 : Code) (hc3 : (loops (Try.f29.body.getD .skip))[3]? = some c3) (hA : H[p]? = some (.box (cItem x0))) (hl : x0.to_.length ≤ 4000000000000000000) :
    ∃ x e' H', lev Try.prog an29 (callD X) c3 bs ((fun s : Nat => [(1, .ptr p 0), (6, I s)]) (0)) ((fun s : Nat => H) (0)) = some (x, e', H') ∧ (H' = H ∧ ((x = .exit 6 ∧ e'.get 1 = .ptr p 0) ∨ (x = .ret ∧ e'.get 2 = .bool false))) := by
  simp only [Try.f29, loops, List.cons_append, List.nil_append, List.append_nil, List.getElem?_cons_zero, List.getElem?_cons_succ, Option.getD_some, Option.some.injEq] at hc3
  refine lev_inv (σ := Nat) (fun s => [(1, .ptr p 0), (6, I s)]) (fun s => H) (fun s => s ≤ x0.to_.length) (fun s => x0.to_.length - s) (fun x e' H' => H' = H ∧ ((x = .exit 6 ∧ e'.get 1 = .ptr p 0) ∨ (x = .ret ∧ e'.get 2 = .bool false))) (0) ?_ ?_ ?_ ?_ ?_
  · simp
  · intro s hs; simp
  · intro s hs; simp [cloEnv, clo, lt_of_get hA]
  · intro s hs; subst hc3; simp [keepAt, headId, lookN, Env.keep, Env.get]
  intro s hs
  subst hc3
  have hp := lt_of_get hA
  rcases Nat.lt_or_ge s x0.to_.length with hlt | hge
  · have h0 : (s : Int) < (x0.to_.length : Int) := by omega
    have hw := wrap_s s (by omega)
    have hg : x0.to_[s]? = some x0.to_[s] := by simp [hlt]
    generalize x0.to_[s] = g at hg
    by_cases h1 : (100 : Int) < g.label.size
    · right; simp [↓ev_loop, ev, evOps, evOp, wants, req, reqCall, inOf, evOpd, ofConst, ofCell, hands, Ann.mem, Env.get, Env.set, gives, handT, Op.operands, Call.operands, meet, putD, params, AV.strip, keepAt, lookN, Env.keep, binAV, intBinAV, headId, tidy, flagOp, nilConst, List.filterMap_cons, List.filterMap_nil, outOf, resAll, resOf, reifyR, reify, reifyP, clo, cloL, cloLL, cloEnv, loadBox, storeBox, okPut, buildElems, buildCells, int_beq, int_bne, h0, hw, hg, h1, hA, S]
    · left; exact ⟨s + 1, by simp [↓ev_loop, ev, evOps, evOp, wants, req, reqCall, inOf, evOpd, ofConst, ofCell, hands, Ann.mem, Env.get, Env.set, gives, handT, Op.operands, Call.operands, meet, putD, params, AV.strip, keepAt, lookN, Env.keep, binAV, intBinAV, headId, tidy, flagOp, nilConst, List.filterMap_cons, List.filterMap_nil, outOf, resAll, resOf, reifyR, reify, reifyP, clo, cloL, cloLL, cloEnv, loadBox, storeBox, okPut, buildElems, buildCells, int_beq, int_bne, h0, hw, hg, h1, hA, S], hlt, by omega⟩
  · right
    have h0 : ¬ (s : Int) < (x0.to_.length : Int) := by omega
    simp [↓ev_loop, ev, evOps, evOp, wants, req, reqCall, inOf, evOpd, ofConst, ofCell, hands, Ann.mem, Env.get, Env.set, gives, handT, Op.operands, Call.operands, meet, putD, params, AV.strip, keepAt, lookN, Env.keep, binAV, intBinAV, headId, tidy, flagOp, nilConst, List.filterMap_cons, List.filterMap_nil, outOf, resAll, resOf, reifyR, reify, reifyP, clo, cloL, cloLL, cloEnv, loadBox, storeBox, okPut, buildElems, buildCells, int_beq, int_bne, h0, hA, S]

theorem lp29_5 (x0 y : Item) (p i : Nat) (bs : List Nat) (H : List AO) (c5 : Code) (hc5 : (loops (Try.f29.body.getD .skip))[5]? = some c5) (hA : H[p]? = some (.box (cItem x0))) (hy : x0.by_[i]? = some y) (hl : y.by_.length ≤ 4000000000000000000) :
    ∃ x e' H', lev Try.prog an29 (callD X) c5 bs ((fun s : Nat => [(1, .ptr p 0), (7, I i), (8, I s)]) (0)) ((fun s : Nat => H) (0)) = some (x, e', H') ∧ (H' = H ∧ ((x = .exit 10 ∧ e'.get 1 = .ptr p 0 ∧ e'.get 7 = I i) ∨ (x = .ret ∧ e'.get 2 = .bool false))) := by
  simp only [Try.f29, loops, List.cons_append, List.nil_append, List.append_nil, List.getElem?_cons_zero, List.getElem?_cons_succ, Option.getD_some, Option.some.injEq] at hc5
  refine lev_inv (σ := Nat) (fun s => [(1, .ptr p 0), (7, I i), (8, I s)]) (fun s => H) (fun s => s ≤ y.by_.length) (fun s => y.by_.length - s) (fun x e' H' => H' = H ∧ ((x = .exit 10 ∧ e'.get 1 = .ptr p 0 ∧ e'.get 7 = I i) ∨ (x = .ret ∧ e'.get 2 = .bool false))) (0) ?_ ?_ ?_ ?_ ?_
  · simp
  · intro s hs; simp
  · intro s hs; simp [cloEnv, clo, lt_of_get hA]
  · intro s hs; subst hc5; simp [keepAt, headId, lookN, Env.keep, Env.get]
  intro s hs
  subst hc5
  have hp := lt_of_get hA
  rcases Nat.lt_or_ge s y.by_.length with hlt | hge
  · have h0 : (s : Int) < (y.by_.length : Int) := by omega
    have hw := wrap_s s (by omega)
    have hg : y.by_[s]? = some y.by_[s] := by simp [hlt]
    generalize y.by_[s] = g at hg
    by_cases h1 : 0 < g.by_.length
    · right; simp [↓ev_loop, ev, evOps, evOp, wants, req, reqCall, inOf, evOpd, ofConst, ofCell, hands, Ann.mem, Env.get, Env.set, gives, handT, Op.operands, Call.operands, meet, putD, params, AV.strip, keepAt, lookN, Env.keep, binAV, intBinAV, headId, tidy, flagOp, nilConst, List.filterMap_cons, List.filterMap_nil, outOf, resAll, resOf, reifyR, reify, reifyP, clo, cloL, cloLL, cloEnv, loadBox, storeBox, okPut, buildElems, buildCells, int_beq, int_bne, h0, hw, hg, h1, hA, hy, S]
    · left; exact ⟨s + 1, by simp [↓ev_loop, ev, evOps, evOp, wants, req, reqCall, inOf, evOpd, ofConst, ofCell, hands, Ann.mem, Env.get, Env.set, gives, handT, Op.operands, Call.operands, meet, putD, params, AV.strip, keepAt, lookN, Env.keep, binAV, intBinAV, headId, tidy, flagOp, nilConst, List.filterMap_cons, List.filterMap_nil, outOf, resAll, resOf, reifyR, reify, reifyP, clo, cloL, cloLL, cloEnv, loadBox, storeBox, okPut, buildElems, buildCells, int_beq, int_bne, h0, hw, hg, h1, hA, hy, S], hlt, by omega⟩
  · right
    have h0 : ¬ (s : Int) < (y.by_.length : Int) := by omega
    simp [↓ev_loop, ev, evOps, evOp, wants, req, reqCall, inOf, evOpd, ofConst, ofCell, hands, Ann.mem, Env.get, Env.set, gives, handT, Op.operands, Call.operands, meet, putD, params, AV.strip, keepAt, lookN, Env.keep, binAV, intBinAV, headId, tidy, flagOp, nilConst, List.filterMap_cons, List.filterMap_nil, outOf, resAll, resOf, reifyR, reify, reifyP, clo, cloL, cloLL, cloEnv, loadBox, storeBox, okPut, buildElems, buildCells, int_beq, int_bne, h0, hA, hy, S]

theorem lp29_4 (x0 : Item) (p : Nat) (bs : List Nat) (H : List AO) (c4 : Code) (hc4 : (loops (Try.f29.body.getD .skip))[4]? = some c4) (c5 : Code) (hc5 : (loops (Try.f29.body.getD .skip))[5]? = some c5) (hA : H[p]? = some (.box (cItem x0))) (hl : x0.by_.length ≤ 4000000000000000000) (hl2 : ∀ y ∈ x0.by_, y.by_.length ≤ 4000000000000000000) (ih : ∀ y ∈ x0.by_, ∀ bs H, ∃ r, callD X 29 [.agg (cItem y)] bs H = some (.bool r, H)) :
    ∃ x e' H', lev Try.prog an29 (callD X) c4 bs ((fun s : Nat => [(1, .ptr p 0), (7, I s)]) (0)) ((fun s : Nat => H) (0)) = some (x, e', H') ∧ (H' = H ∧ (x = .exit 8 ∨ (x = .ret ∧ e'.get 2 = .bool false))) := by
  have hc5' := hc5
  simp only [Try.f29, loops, List.cons_append, List.nil_append, List.append_nil, List.getElem?_cons_zero, List.getElem?_cons_succ, Option.getD_some, Option.some.injEq] at hc4
  simp only [Try.f29, loops, List.cons_append, List.nil_append, List.append_nil, List.getElem?_cons_zero, List.getElem?_cons_succ, Option.getD_some, Option.some.injEq] at hc5
  refine lev_inv (σ := Nat) (fun s => [(1, .ptr p 0), (7, I s)]) (fun s => H) (fun s => s ≤ x0.by_.length) (fun s => x0.by_.length - s) (fun x e' H' => H' = H ∧ (x = .exit 8 ∨ (x = .ret ∧ e'.get 2 = .bool false))) (0) ?_ ?_ ?_ ?_ ?_
  · simp
  · intro s hs; simp
  · intro s hs; simp [cloEnv, clo, lt_of_get hA]
  · intro s hs; subst hc4; simp [keepAt, headId, lookN, Env.keep, Env.get]
  intro s hs
  subst hc4
  rw [hc5]
  have hp := lt_of_get hA
  rcases Nat.lt_or_ge s x0.by_.length with hlt | hge
  · have h0 : (s : Int) < (x0.by_.length : Int) := by omega
    have hw := wrap_s s (by omega)
    have hg : x0.by_[s]? = some x0.by_[s] := by simp [hlt]
    have hin := lp29_5 x0 x0.by_[s] p s (H.length :: bs) H c5 hc5' hA hg (hl2 _ (List.getElem_mem hlt))
    obtain ⟨r, h1⟩ := ih x0.by_[s] (List.getElem_mem hlt) (H.length :: bs) H
    generalize x0.by_[s] = g at hg h1 hin
    obtain ⟨x, e', H', h2, rfl, h3⟩ := hin
    simp only [S, List.map_nil, Int.ofNat_eq_natCast, Int.natCast_zero, List.length_append, List.length_cons, List.length_nil, Nat.zero_add, Nat.reduceAdd] at h2
    rcases h3 with ⟨rfl, h3, h4⟩ | ⟨rfl, h3⟩
    · cases r
      · right; simp [↓ev_loop, ev, evOps, evOp, wants, req, reqCall, inOf, evOpd, ofConst, ofCell, hands, Ann.mem, Env.get, Env.set, gives, handT, Op.operands, Call.operands, meet, putD, params, AV.strip, keepAt, lookN, Env.keep, binAV, intBinAV, headId, tidy, flagOp, nilConst, List.filterMap_cons, List.filterMap_nil, outOf, resAll, resOf, reifyR, reify, reifyP, clo, cloL, cloLL, cloEnv, loadBox, storeBox, okPut, buildElems, buildCells, int_beq, int_bne, h0, hw, hg, h1, hA, h2, h3, h4, S]
      · left; exact ⟨s + 1, by simp [↓ev_loop, ev, evOps, evOp, wants, req, reqCall, inOf, evOpd, ofConst, ofCell, hands, Ann.mem, Env.get, Env.set, gives, handT, Op.operands, Call.operands, meet, putD, params, AV.strip, keepAt, lookN, Env.keep, binAV, intBinAV, headId, tidy, flagOp, nilConst, List.filterMap_cons, List.filterMap_nil, outOf, resAll, resOf, reifyR, reify, reifyP, clo, cloL, cloLL, cloEnv, loadBox, storeBox, okPut, buildElems, buildCells, int_beq, int_bne, h0, hw, hg, h1, hA, h2, h3, h4, S], hlt, by omega⟩
    · right; simp [↓ev_loop, ev, evOps, evOp, wants, req, reqCall, inOf, evOpd, ofConst, ofCell, hands, Ann.mem, Env.get, Env.set, gives, handT, Op.operands, Call.operands, meet, putD, params, AV.strip, keepAt, lookN, Env.keep, binAV, intBinAV, headId, tidy, flagOp, nilConst, List.filterMap_cons, List.filterMap_nil, outOf, resAll, resOf, reifyR, reify, reifyP, clo, cloL, cloLL, cloEnv, loadBox, storeBox, okPut, buildElems, buildCells, int_beq, int_bne, h0, hw, hg, h1, hA, h2, h3, S]
  · right
    have h0 : ¬ (s : Int) < (x0.by_.length : Int) := by omega
    simp [↓ev_loop, ev, evOps, evOp, wants, req, reqCall, inOf, evOpd, ofConst, ofCell, hands, Ann.mem, Env.get, Env.set, gives, handT, Op.operands, Call.operands, meet, putD, params, AV.strip, keepAt, lookN, Env.keep, binAV, intBinAV, headId, tidy, flagOp, nilConst, List.filterMap_cons, List.filterMap_nil, outOf, resAll, resOf, reifyR, reify, reifyP, clo, cloL, cloLL, cloEnv, loadBox, storeBox, okPut, buildElems, buildCells, int_beq, int_bne, h0, hA, S]

theorem ex29 : ∀ (n : Nat) (x0 : Item), SizeOf.sizeOf x0 < n → wfI x0 → ∀ bs H, ∃ r, callD X 29 [.agg (cItem x0)] bs H = some (.bool r, H) := by
  intro n
  induction n with
  | zero => intro a h; omega
  | succ n ih =>
   intro x0 hn hw bs H
   obtain ⟨ha1, ha2, ha3, ha4, ha5, hkl, hwk⟩ := (wfI_eq x0).1 hw
   have ih' : ∀ y ∈ x0.by_, ∀ bs H, ∃ r, callD X 29 [.agg (cItem y)] bs H = some (.bool r, H) := fun x hx bs H => ih x (by have := size_by hx; omega) (hwk x hx) bs H
   have hl2 : ∀ y ∈ x0.by_, y.by_.length ≤ 4000000000000000000 := fun y hy => ((wfI_eq y).1 (hwk y hy)).2.2.2.2.2.1
   obtain ⟨r, hr⟩ := ex54 x0.unit ha5 30 (H.length :: bs) (H ++ [.box (cItem x0)])
   rw [callD_eq]
   simp only [Xprim]
   unfold runBody
   simp only [XP, Try.func29, Xan29, Xok29]
   obtain ⟨c0, hc0⟩ : ∃ c, (loops (Try.f29.body.getD .skip))[0]? = some c := ⟨_, rfl⟩
   obtain ⟨c1, hc1⟩ : ∃ c, (loops (Try.f29.body.getD .skip))[1]? = some c := ⟨_, rfl⟩
   obtain ⟨c2, hc2⟩ : ∃ c, (loops (Try.f29.body.getD .skip))[2]? = some c := ⟨_, rfl⟩
   obtain ⟨c3, hc3⟩ : ∃ c, (loops (Try.f29.body.getD .skip))[3]? = some c := ⟨_, rfl⟩
   obtain ⟨c4, hc4⟩ : ∃ c, (loops (Try.f29.body.getD .skip))[4]? = some c := ⟨_, rfl⟩
   obtain ⟨c5, hc5⟩ : ∃ c, (loops (Try.f29.body.getD .skip))[5]? = some c := ⟨_, rfl⟩
   have hd0 := hc0
   simp only [Try.f29, loops, List.cons_append, List.nil_append, List.append_nil, List.getElem?_cons_zero, List.getElem?_cons_succ, Option.getD_some, Option.some.injEq] at hd0
   have hd1 := hc1
   simp only [Try.f29, loops, List.cons_append, List.nil_append, List.append_nil, List.getElem?_cons_zero, List.getElem?_cons_succ, Option.getD_some, Option.some.injEq] at hd1
   have hd2 := hc2
   simp only [Try.f29, loops, List.cons_append, List.nil_append, List.append_nil, List.getElem?_cons_zero, List.getElem?_cons_succ, Option.getD_some, Option.some.injEq] at hd2
   have hd3 := hc3
   simp only [Try.f29, loops, List.cons_append, List.nil_append, List.append_nil, List.getElem?_cons_zero, List.getElem?_cons_succ, Option.getD_some, Option.some.injEq] at hd3
   have hd4 := hc4
   simp only [Try.f29, loops, List.cons_append, List.nil_append, List.append_nil, List.getElem?_cons_zero, List.getElem?_cons_succ, Option.getD_some, Option.some.injEq] at hd4
   have hd5 := hc5
   simp only [Try.f29, loops, List.cons_append, List.nil_append, List.append_nil, List.getElem?_cons_zero, List.getElem?_cons_succ, Option.getD_some, Option.some.injEq] at hd5
   simp only [Try.f29]
   (try rw [hd0])
   (try rw [hd1])
   (try rw [hd2])
   (try rw [hd3])
   (try rw [hd4])
   (try rw [hd5])
   by_cases k1 : (12 : Int) < x0.at_.length
   · simp [↓ev_loop, ev, evOps, evOp, wants, req, reqCall, inOf, evOpd, ofConst, ofCell, hands, Ann.mem, Env.get, Env.set, gives, handT, Op.operands, Call.operands, meet, putD, params, AV.strip, keepAt, lookN, Env.keep, binAV, intBinAV, headId, tidy, flagOp, nilConst, List.filterMap_cons, List.filterMap_nil, outOf, resAll, resOf, reifyR, reify, reifyP, clo, cloL, cloLL, cloEnv, loadBox, storeBox, okPut, buildElems, buildCells, int_beq, int_bne, k1, S]
   by_cases k2 : (12 : Int) < x0.to_.length
   · simp [↓ev_loop, ev, evOps, evOp, wants, req, reqCall, inOf, evOpd, ofConst, ofCell, hands, Ann.mem, Env.get, Env.set, gives, handT, Op.operands, Call.operands, meet, putD, params, AV.strip, keepAt, lookN, Env.keep, binAV, intBinAV, headId, tidy, flagOp, nilConst, List.filterMap_cons, List.filterMap_nil, outOf, resAll, resOf, reifyR, reify, reifyP, clo, cloL, cloLL, cloEnv, loadBox, storeBox, okPut, buildElems, buildCells, int_beq, int_bne, k1, k2, S]
   by_cases k3 : (300 : Int) < x0.old.length
   · simp [↓ev_loop, ev, evOps, evOp, wants, req, reqCall, inOf, evOpd, ofConst, ofCell, hands, Ann.mem, Env.get, Env.set, gives, handT, Op.operands, Call.operands, meet, putD, params, AV.strip, keepAt, lookN, Env.keep, binAV, intBinAV, headId, tidy, flagOp, nilConst, List.filterMap_cons, List.filterMap_nil, outOf, resAll, resOf, reifyR, reify, reifyP, clo, cloL, cloLL, cloEnv, loadBox, storeBox, okPut, buildElems, buildCells, int_beq, int_bne, k1, k2, k3, S]
   by_cases k4 : (300 : Int) < x0.new.length
   · simp [↓ev_loop, ev, evOps, evOp, wants, req, reqCall, inOf, evOpd, ofConst, ofCell, hands, Ann.mem, Env.get, Env.set, gives, handT, Op.operands, Call.operands, meet, putD, params, AV.strip, keepAt, lookN, Env.keep, binAV, intBinAV, headId, tidy, flagOp, nilConst, List.filterMap_cons, List.filterMap_nil, outOf, resAll, resOf, reifyR, reify, reifyP, clo, cloL, cloLL, cloEnv, loadBox, storeBox, okPut, buildElems, buildCells, int_beq, int_bne, k1, k2, k3, k4, S]
   by_cases k5 : (100 : Int) < x0.label.size
   · simp [↓ev_loop, ev, evOps, evOp, wants, req, reqCall, inOf, evOpd, ofConst, ofCell, hands, Ann.mem, Env.get, Env.set, gives, handT, Op.operands, Call.operands, meet, putD, params, AV.strip, keepAt, lookN, Env.keep, binAV, intBinAV, headId, tidy, flagOp, nilConst, List.filterMap_cons, List.filterMap_nil, outOf, resAll, resOf, reifyR, reify, reifyP, clo, cloL, cloLL, cloEnv, loadBox, storeBox, okPut, buildElems, buildCells, int_beq, int_bne, k1, k2, k3, k4, k5, S]
   by_cases k6 : (100 : Int) < x0.for_.size
   · simp [↓ev_loop, ev, evOps, evOp, wants, req, reqCall, inOf, evOpd, ofConst, ofCell, hands, Ann.mem, Env.get, Env.set, gives, handT, Op.operands, Call.operands, meet, putD, params, AV.strip, keepAt, lookN, Env.keep, binAV, intBinAV, headId, tidy, flagOp, nilConst, List.filterMap_cons, List.filterMap_nil, outOf, resAll, resOf, reifyR, reify, reifyP, clo, cloL, cloLL, cloEnv, loadBox, storeBox, okPut, buildElems, buildCells, int_beq, int_bne, k1, k2, k3, k4, k5, k6, S]
   by_cases k7 : (100 : Int) < x0.start.event.size
   · simp [↓ev_loop, ev, evOps, evOp, wants, req, reqCall, inOf, evOpd, ofConst, ofCell, hands, Ann.mem, Env.get, Env.set, gives, handT, Op.operands, Call.operands, meet, putD, params, AV.strip, keepAt, lookN, Env.keep, binAV, intBinAV, headId, tidy, flagOp, nilConst, List.filterMap_cons, List.filterMap_nil, outOf, resAll, resOf, reifyR, reify, reifyP, clo, cloL, cloLL, cloEnv, loadBox, storeBox, okPut, buildElems, buildCells, int_beq, int_bne, k1, k2, k3, k4, k5, k6, k7, S]
   by_cases k8 : (100 : Int) < x0.event.size
   · simp [↓ev_loop, ev, evOps, evOp, wants, req, reqCall, inOf, evOpd, ofConst, ofCell, hands, Ann.mem, Env.get, Env.set, gives, handT, Op.operands, Call.operands, meet, putD, params, AV.strip, keepAt, lookN, Env.keep, binAV, intBinAV, headId, tidy, flagOp, nilConst, List.filterMap_cons, List.filterMap_nil, outOf, resAll, resOf, reifyR, reify, reifyP, clo, cloL, cloLL, cloEnv, loadBox, storeBox, okPut, buildElems, buildCells, int_beq, int_bne, k1, k2, k3, k4, k5, k6, k7, k8, S]
   by_cases k9 : (2 : Int) < x0.by_.length
   · simp [↓ev_loop, ev, evOps, evOp, wants, req, reqCall, inOf, evOpd, ofConst, ofCell, hands, Ann.mem, Env.get, Env.set, gives, handT, Op.operands, Call.operands, meet, putD, params, AV.strip, keepAt, lookN, Env.keep, binAV, intBinAV, headId, tidy, flagOp, nilConst, List.filterMap_cons, List.filterMap_nil, outOf, resAll, resOf, reifyR, reify, reifyP, clo, cloL, cloLL, cloEnv, loadBox, storeBox, okPut, buildElems, buildCells, int_beq, int_bne, k1, k2, k3, k4, k5, k6, k7, k8, k9, S]
   cases r
   · simp [↓ev_loop, ev, evOps, evOp, wants, req, reqCall, inOf, evOpd, ofConst, ofCell, hands, Ann.mem, Env.get, Env.set, gives, handT, Op.operands, Call.operands, meet, putD, params, AV.strip, keepAt, lookN, Env.keep, binAV, intBinAV, headId, tidy, flagOp, nilConst, List.filterMap_cons, List.filterMap_nil, outOf, resAll, resOf, reifyR, reify, reifyP, clo, cloL, cloLL, cloEnv, loadBox, storeBox, okPut, buildElems, buildCells, int_beq, int_bne, k1, k2, k3, k4, k5, k6, k7, k8, k9, hr, S]
   obtain ⟨x, e', H', z0, q0, h2⟩ := lp29_0 x0 H.length (H.length :: bs) (H ++ [.box (cItem x0)]) c0 hc0 (by simp) ha3
   subst q0
   simp only [S, List.map_nil, Int.ofNat_eq_natCast, Int.natCast_zero, List.length_append, List.length_cons, List.length_nil, Nat.zero_add, Nat.reduceAdd] at z0
   rcases h2 with ⟨rfl, g0⟩ | ⟨rfl, g0⟩
   rotate_left
   · simp [↓ev_loop, ev, evOps, evOp, wants, req, reqCall, inOf, evOpd, ofConst, ofCell, hands, Ann.mem, Env.get, Env.set, gives, handT, Op.operands, Call.operands, meet, putD, params, AV.strip, keepAt, lookN, Env.keep, binAV, intBinAV, headId, tidy, flagOp, nilConst, List.filterMap_cons, List.filterMap_nil, outOf, resAll, resOf, reifyR, reify, reifyP, clo, cloL, cloLL, cloEnv, loadBox, storeBox, okPut, buildElems, buildCells, int_beq, int_bne, k1, k2, k3, k4, k5, k6, k7, k8, k9, hr, z0, g0, S]
   obtain ⟨x, e', H', z1, q1, h2⟩ := lp29_1 x0 H.length (H.length :: bs) (H ++ [.box (cItem x0)]) c1 hc1 (by simp) ha4
   subst q1
   simp only [S, List.map_nil, Int.ofNat_eq_natCast, Int.natCast_zero, List.length_append, List.length_cons, List.length_nil, Nat.zero_add, Nat.reduceAdd] at z1
   rcases h2 with ⟨rfl, g1⟩ | ⟨rfl, g1⟩
   rotate_left
   · simp [↓ev_loop, ev, evOps, evOp, wants, req, reqCall, inOf, evOpd, ofConst, ofCell, hands, Ann.mem, Env.get, Env.set, gives, handT, Op.operands, Call.operands, meet, putD, params, AV.strip, keepAt, lookN, Env.keep, binAV, intBinAV, headId, tidy, flagOp, nilConst, List.filterMap_cons, List.filterMap_nil, outOf, resAll, resOf, reifyR, reify, reifyP, clo, cloL, cloLL, cloEnv, loadBox, storeBox, okPut, buildElems, buildCells, int_beq, int_bne, k1, k2, k3, k4, k5, k6, k7, k8, k9, hr, z0, g0, z1, g1, S]
   obtain ⟨x, e', H', z2, q2, h2⟩ := lp29_2 x0 H.length (H.length :: bs) (H ++ [.box (cItem x0)]) c2 hc2 (by simp) ha1
   subst q2
   simp only [S, List.map_nil, Int.ofNat_eq_natCast, Int.natCast_zero, List.length_append, List.length_cons, List.length_nil, Nat.zero_add, Nat.reduceAdd] at z2
   rcases h2 with ⟨rfl, g2⟩ | ⟨rfl, g2⟩
   rotate_left
   · simp [↓ev_loop, ev, evOps, evOp, wants, req, reqCall, inOf, evOpd, ofConst, ofCell, hands, Ann.mem, Env.get, Env.set, gives, handT, Op.operands, Call.operands, meet, putD, params, AV.strip, keepAt, lookN, Env.keep, binAV, intBinAV, headId, tidy, flagOp, nilConst, List.filterMap_cons, List.filterMap_nil, outOf, resAll, resOf, reifyR, reify, reifyP, clo, cloL, cloLL, cloEnv, loadBox, storeBox, okPut, buildElems, buildCells, int_beq, int_bne, k1, k2, k3, k4, k5, k6, k7, k8, k9, hr, z0, g0, z1, g1, z2, g2, S]
   obtain ⟨x, e', H', z3, q3, h2⟩ := lp29_3 x0 H.length (H.length :: bs) (H ++ [.box (cItem x0)]) c3 hc3 (by simp) ha2
   subst q3
   simp only [S, List.map_nil, Int.ofNat_eq_natCast, Int.natCast_zero, List.length_append, List.length_cons, List.length_nil, Nat.zero_add, Nat.reduceAdd] at z3
   rcases h2 with ⟨rfl, g3⟩ | ⟨rfl, g3⟩
   rotate_left
   · simp [↓ev_loop, ev, evOps, evOp, wants, req, reqCall, inOf, evOpd, ofConst, ofCell, hands, Ann.mem, Env.get, Env.set, gives, handT, Op.operands, Call.operands, meet, putD, params, AV.strip, keepAt, lookN, Env.keep, binAV, intBinAV, headId, tidy, flagOp, nilConst, List.filterMap_cons, List.filterMap_nil, outOf, resAll, resOf, reifyR, reify, reifyP, clo, cloL, cloLL, cloEnv, loadBox, storeBox, okPut, buildElems, buildCells, int_beq, int_bne, k1, k2, k3, k4, k5, k6, k7, k8, k9, hr, z0, g0, z1, g1, z2, g2, z3, g3, S]
   obtain ⟨x, e', H', z4, q4, h2⟩ := lp29_4 x0 H.length (H.length :: bs) (H ++ [.box (cItem x0)]) c4 hc4 c5 hc5 (by simp) hkl hl2 ih'
   subst q4
   simp only [S, List.map_nil, Int.ofNat_eq_natCast, Int.natCast_zero, List.length_append, List.length_cons, List.length_nil, Nat.zero_add, Nat.reduceAdd] at z4
   rcases h2 with rfl | ⟨rfl, g4⟩
   · simp [↓ev_loop, ev, evOps, evOp, wants, req, reqCall, inOf, evOpd, ofConst, ofCell, hands, Ann.mem, Env.get, Env.set, gives, handT, Op.operands, Call.operands, meet, putD, params, AV.strip, keepAt, lookN, Env.keep, binAV, intBinAV, headId, tidy, flagOp, nilConst, List.filterMap_cons, List.filterMap_nil, outOf, resAll, resOf, reifyR, reify, reifyP, clo, cloL, cloLL, cloEnv, loadBox, storeBox, okPut, buildElems, buildCells, int_beq, int_bne, k1, k2, k3, k4, k5, k6, k7, k8, k9, hr, z0, g0, z1, g1, z2, g2, z3, g3, z4, S]
   · simp [↓ev_loop, ev, evOps, evOp, wants, req, reqCall, inOf, evOpd, ofConst, ofCell, hands, Ann.mem, Env.get, Env.set, gives, handT, Op.operands, Call.operands, meet, putD, params, AV.strip, keepAt, lookN, Env.keep, binAV, intBinAV, headId, tidy, flagOp, nilConst, List.filterMap_cons, List.filterMap_nil, outOf, resAll, resOf, reifyR, reify, reifyP, clo, cloL, cloLL, cloEnv, loadBox, storeBox, okPut, buildElems, buildCells, int_beq, int_bne, k1, k2, k3, k4, k5, k6, k7, k8, k9, hr, z0, g0, z1, g1, z2, g2, z3, g3, z4, g4, S]
end Go.Proofs.Ytlpilgnjlnepeaa.T
namespace Go.Proofs.Ytlpilgnjlnepeaa.T
open Go.VM Go.Proofs
set_option linter.unusedSimpArgs false
set_option maxHeartbeats 16000000
set_option maxRecDepth 10000

def nItems (l : List Act) : Nat := (l.map fun a => a.items.length).sum
theorem nItems_app (a b : List Act) : nItems (a ++ b) = nItems a + nItems b := by simp [nItems]
theorem nItems_one (a : Act) : nItems [a] = a.items.length := by simp [nItems]

theorem lp10_2 (l : List Gazette) (a : Act) (p : Nat) (m v i j : Int) (bs : List Nat) (H : List AO) (c2 : Code) (hc2 : (loops (Try.f10.body.getD .skip))[2]? = some c2) (hA : H[p]? = some (.box (cAct a))) (hl : a.items.length ≤ 4000000000000000000) (hwf : ∀ y ∈ a.items, wfI y) :
    ∃ x e' H', lev Try.prog an10 (callD X) c2 bs ((fun s : Nat => [(0, S cGazette l), (1, I m), (5, I v), (6, I i), (7, I j), (8, .ptr p 0), (9, I s)]) (0)) ((fun s : Nat => H) (0)) = some (x, e', H') ∧ (H' = H ∧ ((x = .exit 4 ∧ e'.get 0 = S cGazette l ∧ e'.get 1 = I m ∧ e'.get 5 = I v ∧ e'.get 6 = I i ∧ e'.get 7 = I j) ∨ (x = .ret ∧ e'.get 4 = .bool false))) := by
  simp only [Try.f10, loops, List.cons_append, List.nil_append, List.append_nil, List.getElem?_cons_zero, List.getElem?_cons_succ, Option.getD_some, Option.some.injEq] at hc2
  refine lev_inv (σ := Nat) (fun s => [(0, S cGazette l), (1, I m), (5, I v), (6, I i), (7, I j), (8, .ptr p 0), (9, I s)]) (fun s => H) (fun s => s ≤ a.items.length) (fun s => a.items.length - s) (fun x e' H' => H' = H ∧ ((x = .exit 4 ∧ e'.get 0 = S cGazette l ∧ e'.get 1 = I m ∧ e'.get 5 = I v ∧ e'.get 6 = I i ∧ e'.get 7 = I j) ∨ (x = .ret ∧ e'.get 4 = .bool false))) (0) ?_ ?_ ?_ ?_ ?_
  · simp
  · intro s hs; simp
  · intro s hs; simp [cloEnv, clo, lt_of_get hA, S]
  · intro s hs; subst hc2; simp [keepAt, headId, lookN, Env.keep, Env.get]
  intro s hs
  subst hc2
  have hp := lt_of_get hA
  rcases Nat.lt_or_ge s a.items.length with hlt | hge
  · have h0 : (s : Int) < (a.items.length : Int) := by omega
    have hw := wrap_s s (by omega)
    have hg : a.items[s]? = some a.items[s] := by simp [hlt]
    obtain ⟨r, h1⟩ := ex29 _ a.items[s] (Nat.lt_succ_self _) (hwf _ (List.getElem_mem hlt)) (H.length :: bs) H
    generalize a.items[s] = g at hg h1
    cases r
    · right; simp [↓ev_loop, ev, evOps, evOp, wants, req, reqCall, inOf, evOpd, ofConst, ofCell, hands, Ann.mem, Env.get, Env.set, gives, handT, Op.operands, Call.operands, meet, putD, params, AV.strip, keepAt, lookN, Env.keep, binAV, intBinAV, headId, tidy, flagOp, nilConst, List.filterMap_cons, List.filterMap_nil, outOf, resAll, resOf, reifyR, reify, reifyP, clo, cloL, cloLL, cloEnv, loadBox, storeBox, okPut, buildElems, buildCells, int_beq, int_bne, h0, hw, hg, h1, hA, S]
    · left; exact ⟨s + 1, by simp [↓ev_loop, ev, evOps, evOp, wants, req, reqCall, inOf, evOpd, ofConst, ofCell, hands, Ann.mem, Env.get, Env.set, gives, handT, Op.operands, Call.operands, meet, putD, params, AV.strip, keepAt, lookN, Env.keep, binAV, intBinAV, headId, tidy, flagOp, nilConst, List.filterMap_cons, List.filterMap_nil, outOf, resAll, resOf, reifyR, reify, reifyP, clo, cloL, cloLL, cloEnv, loadBox, storeBox, okPut, buildElems, buildCells, int_beq, int_bne, h0, hw, hg, h1, hA, S], hlt, by omega⟩
  · right
    have h0 : ¬ (s : Int) < (a.items.length : Int) := by omega
    simp [↓ev_loop, ev, evOps, evOp, wants, req, reqCall, inOf, evOpd, ofConst, ofCell, hands, Ann.mem, Env.get, Env.set, gives, handT, Op.operands, Call.operands, meet, putD, params, AV.strip, keepAt, lookN, Env.keep, binAV, intBinAV, headId, tidy, flagOp, nilConst, List.filterMap_cons, List.filterMap_nil, outOf, resAll, resOf, reifyR, reify, reifyP, clo, cloL, cloLL, cloEnv, loadBox, storeBox, okPut, buildElems, buildCells, int_beq, int_bne, h0, hA, S]

def wfA (a : Act) : Prop := a.items.length ≤ 4000000000000000000 ∧ ∀ y ∈ a.items, wfI y
def wfG (g : Gazette) : Prop := g.acts.length ≤ 4000000000000000000 ∧ ∀ a ∈ g.acts, wfA a

theorem lp10_1 (l : List Gazette) (g : Gazette) (i : Nat) (v : Nat) (bs : List Nat) (H : List AO) (c1 : Code) (hc1 : (loops (Try.f10.body.getD .skip))[1]? = some c1) (c2 : Code) (hc2 : (loops (Try.f10.body.getD .skip))[2]? = some c2) (hG : l[i]? = some g) (hw0 : wfG g) (hv : v ≤ 30) :
    ∃ x e' H', lev Try.prog an10 (callD X) c1 bs ((fun s : Nat × Nat => [(0, S cGazette l), (1, I 30), (5, I s.2), (6, I i), (7, I s.1)]) ((0, v))) ((fun s : Nat × Nat => H) ((0, v))) = some (x, e', H') ∧ (H'.take H.length = H ∧ H.length ≤ H'.length ∧ ((x = .exit 2 ∧ v + nItems g.acts ≤ 30 ∧ e'.get 0 = S cGazette l ∧ e'.get 1 = I 30 ∧ e'.get 5 = I ((v + nItems g.acts : Nat)) ∧ e'.get 6 = I i) ∨ (x = .ret ∧ e'.get 4 = .bool false))) := by
  have hc2' := hc2
  simp only [Try.f10, loops, List.cons_append, List.nil_append, List.append_nil, List.getElem?_cons_zero, List.getElem?_cons_succ, Option.getD_some, Option.some.injEq] at hc1
  simp only [Try.f10, loops, List.cons_append, List.nil_append, List.append_nil, List.getElem?_cons_zero, List.getElem?_cons_succ, Option.getD_some, Option.some.injEq] at hc2
  refine lev_inv (σ := Nat × Nat) (fun s => [(0, S cGazette l), (1, I 30), (5, I s.2), (6, I i), (7, I s.1)]) (fun s => H) (fun s => s.1 ≤ g.acts.length ∧ s.2 = v + nItems (g.acts.take s.1) ∧ s.2 ≤ 30) (fun s => g.acts.length - s.1) (fun x e' H' => H'.take H.length = H ∧ H.length ≤ H'.length ∧ ((x = .exit 2 ∧ v + nItems g.acts ≤ 30 ∧ e'.get 0 = S cGazette l ∧ e'.get 1 = I 30 ∧ e'.get 5 = I ((v + nItems g.acts : Nat)) ∧ e'.get 6 = I i) ∨ (x = .ret ∧ e'.get 4 = .bool false))) ((0, v)) ?_ ?_ ?_ ?_ ?_
  · exact ⟨Nat.zero_le _, by simp [nItems], hv⟩
  · intro s hs; simp
  · intro s hs; simp [cloEnv, clo, S]
  · intro s hs; subst hc1; simp [keepAt, headId, lookN, Env.keep, Env.get]
  intro s hs
  subst hc1
  (try rw [hc2])
  obtain ⟨s, w⟩ := s
  obtain ⟨hs, hw1, hw2⟩ := hs
  simp only at hs hw1 hw2 ⊢
  rcases Nat.lt_or_ge s g.acts.length with hlt | hge
  · have h0 : (s : Int) < (g.acts.length : Int) := by omega
    have hw := wrap_s s (by have := hw0.1; omega)
    have hg : g.acts[s]? = some g.acts[s] := by simp [hlt]
    have ht : nItems (g.acts.take (s + 1)) = nItems (g.acts.take s) + g.acts[s].items.length := by rw [take_s _ s hlt, nItems_app, nItems_one]
    have hwa := hw0.2 _ (List.getElem_mem hlt)
    generalize g.acts[s] = a at hg ht hwa
    obtain ⟨W, hW⟩ : ∃ W, W = w + a.items.length := ⟨_, rfl⟩
    have hw3 : IntKind.i64.wrap ((w : Int) + (a.items.length : Int)) = (W : Int) := by rw [wrap_i64 _ (by omega) (by have := hwa.1; omega)]; omega
    have hin := lp10_2 l a H.length 30 W i s (H.length :: bs) (H ++ [.box (cAct a)]) c2 hc2' (by simp) hwa.1 hwa.2
    obtain ⟨x, e', H', h2, rfl, h3⟩ := hin
    simp only [S, List.map_nil, Int.ofNat_eq_natCast, Int.natCast_zero, List.length_append, List.length_cons, List.length_nil, Nat.zero_add, Nat.reduceAdd] at h2
    by_cases k1 : (30 : Int) < (W : Int)
    · right; simp [↓ev_loop, ev, evOps, evOp, wants, req, reqCall, inOf, evOpd, ofConst, ofCell, hands, Ann.mem, Env.get, Env.set, gives, handT, Op.operands, Call.operands, meet, putD, params, AV.strip, keepAt, lookN, Env.keep, binAV, intBinAV, headId, tidy, flagOp, nilConst, List.filterMap_cons, List.filterMap_nil, outOf, resAll, resOf, reifyR, reify, reifyP, clo, cloL, cloLL, cloEnv, loadBox, storeBox, okPut, buildElems, buildCells, int_beq, int_bne, h0, hw3, hG, hg, k1, S, splice]
    · by_cases k2 : (100 : Int) < a.title.size
      · right; simp [↓ev_loop, ev, evOps, evOp, wants, req, reqCall, inOf, evOpd, ofConst, ofCell, hands, Ann.mem, Env.get, Env.set, gives, handT, Op.operands, Call.operands, meet, putD, params, AV.strip, keepAt, lookN, Env.keep, binAV, intBinAV, headId, tidy, flagOp, nilConst, List.filterMap_cons, List.filterMap_nil, outOf, resAll, resOf, reifyR, reify, reifyP, clo, cloL, cloLL, cloEnv, loadBox, storeBox, okPut, buildElems, buildCells, int_beq, int_bne, h0, hw3, hG, hg, k1, k2, S, splice]
      · by_cases k3 : (60 : Int) < a.start.event.size
        · right; simp [↓ev_loop, ev, evOps, evOp, wants, req, reqCall, inOf, evOpd, ofConst, ofCell, hands, Ann.mem, Env.get, Env.set, gives, handT, Op.operands, Call.operands, meet, putD, params, AV.strip, keepAt, lookN, Env.keep, binAV, intBinAV, headId, tidy, flagOp, nilConst, List.filterMap_cons, List.filterMap_nil, outOf, resAll, resOf, reifyR, reify, reifyP, clo, cloL, cloLL, cloEnv, loadBox, storeBox, okPut, buildElems, buildCells, int_beq, int_bne, h0, hw3, hG, hg, k1, k2, k3, S, splice]
        · rcases h3 with ⟨rfl, g0, g1, g5, g6, g7⟩ | ⟨rfl, h3⟩
          · left
            refine ⟨(s + 1, W), ?_, ⟨hlt, by simp only [ht]; omega, by simp only; omega⟩, by simp only; omega⟩
            simp [↓ev_loop, ev, evOps, evOp, wants, req, reqCall, inOf, evOpd, ofConst, ofCell, hands, Ann.mem, Env.get, Env.set, gives, handT, Op.operands, Call.operands, meet, putD, params, AV.strip, keepAt, lookN, Env.keep, binAV, intBinAV, headId, tidy, flagOp, nilConst, List.filterMap_cons, List.filterMap_nil, outOf, resAll, resOf, reifyR, reify, reifyP, clo, cloL, cloLL, cloEnv, loadBox, storeBox, okPut, buildElems, buildCells, int_beq, int_bne, h0, hw, hw3, hG, hg, k1, k2, k3, h2, g0, g1, g5, g6, g7, S, splice]
          · right; simp [↓ev_loop, ev, evOps, evOp, wants, req, reqCall, inOf, evOpd, ofConst, ofCell, hands, Ann.mem, Env.get, Env.set, gives, handT, Op.operands, Call.operands, meet, putD, params, AV.strip, keepAt, lookN, Env.keep, binAV, intBinAV, headId, tidy, flagOp, nilConst, List.filterMap_cons, List.filterMap_nil, outOf, resAll, resOf, reifyR, reify, reifyP, clo, cloL, cloLL, cloEnv, loadBox, storeBox, okPut, buildElems, buildCells, int_beq, int_bne, h0, hw3, hG, hg, k1, k2, k3, h2, h3, S, splice]
  · right
    have h0 : ¬ (s : Int) < (g.acts.length : Int) := by omega
    have : s = g.acts.length := by omega
    subst this
    rw [List.take_length] at hw1
    simp [↓ev_loop, ev, evOps, evOp, wants, req, reqCall, inOf, evOpd, ofConst, ofCell, hands, Ann.mem, Env.get, Env.set, gives, handT, Op.operands, Call.operands, meet, putD, params, AV.strip, keepAt, lookN, Env.keep, binAV, intBinAV, headId, tidy, flagOp, nilConst, List.filterMap_cons, List.filterMap_nil, outOf, resAll, resOf, reifyR, reify, reifyP, clo, cloL, cloLL, cloEnv, loadBox, storeBox, okPut, buildElems, buildCells, int_beq, int_bne, h0, hG, S, hw1]
    omega

theorem lp10_0 (l : List Gazette) (bs : List Nat) (H : List AO) (c0 : Code) (hc0 : (loops (Try.f10.body.getD .skip))[0]? = some c0) (c1 : Code) (hc1 : (loops (Try.f10.body.getD .skip))[1]? = some c1) (c2 : Code) (hc2 : (loops (Try.f10.body.getD .skip))[2]? = some c2) (hl : l.length ≤ 8) (hw0 : ∀ g ∈ l, wfG g) :
    ∃ x e' H', lev Try.prog an10 (callD X) c0 bs ((fun s : Nat × Nat => [(0, S cGazette l), (1, I 30), (5, I s.2), (6, I s.1)]) ((0, 0))) ((fun s : Nat × Nat => H) ((0, 0))) = some (x, e', H') ∧ (H'.take H.length = H ∧ H.length ≤ H'.length ∧ ((x = .exit 0 ∧ nItems (l.flatMap Gazette.acts) ≤ 30 ∧ ∀ g ∈ l, g.acts.length ≤ 8) ∨ (x = .ret ∧ e'.get 4 = .bool false))) := by
  have hc1' := hc1
  have hc2' := hc2
  simp only [Try.f10, loops, List.cons_append, List.nil_append, List.append_nil, List.getElem?_cons_zero, List.getElem?_cons_succ, Option.getD_some, Option.some.injEq] at hc0
  simp only [Try.f10, loops, List.cons_append, List.nil_append, List.append_nil, List.getElem?_cons_zero, List.getElem?_cons_succ, Option.getD_some, Option.some.injEq] at hc1
  simp only [Try.f10, loops, List.cons_append, List.nil_append, List.append_nil, List.getElem?_cons_zero, List.getElem?_cons_succ, Option.getD_some, Option.some.injEq] at hc2
  refine lev_inv (σ := Nat × Nat) (fun s => [(0, S cGazette l), (1, I 30), (5, I s.2), (6, I s.1)]) (fun s => H) (fun s => s.1 ≤ l.length ∧ s.2 = nItems ((l.take s.1).flatMap Gazette.acts) ∧ s.2 ≤ 30 ∧ ∀ g ∈ l.take s.1, g.acts.length ≤ 8) (fun s => l.length - s.1) (fun x e' H' => H'.take H.length = H ∧ H.length ≤ H'.length ∧ ((x = .exit 0 ∧ nItems (l.flatMap Gazette.acts) ≤ 30 ∧ ∀ g ∈ l, g.acts.length ≤ 8) ∨ (x = .ret ∧ e'.get 4 = .bool false))) ((0, 0)) ?_ ?_ ?_ ?_ ?_
  · exact ⟨Nat.zero_le _, by simp [nItems], by omega, by simp⟩
  · intro s hs; simp
  · intro s hs; simp [cloEnv, clo, S]
  · intro s hs; subst hc0; simp [keepAt, headId, lookN, Env.keep, Env.get]
  intro s hs
  subst hc0
  (try rw [hc1])
  (try rw [hc2])
  obtain ⟨s, w⟩ := s
  obtain ⟨hs, hw1, hw2, hw4⟩ := hs
  simp only at hs hw1 hw2 hw4 ⊢
  rcases Nat.lt_or_ge s l.length with hlt | hge
  · have h0 : (s : Int) < (l.length : Int) := by omega
    have hw := wrap_s s (by omega)
    have hg : l[s]? = some l[s] := by simp [hlt]
    have ht : l.take (s + 1) = l.take s ++ [l[s]] := take_s l s hlt
    have hwg := hw0 _ (List.getElem_mem hlt)
    generalize l[s] = g at hg ht hwg
    have ht2 : nItems ((l.take (s + 1)).flatMap Gazette.acts) = w + nItems g.acts := by
      rw [ht, hw1]; simp only [List.flatMap_append, List.flatMap_cons, List.flatMap_nil, List.append_nil, nItems_app]
    have hin := lp10_1 l g s w (H.length :: bs) H c1 hc1' c2 hc2' hg hwg hw2
    obtain ⟨x, e', H', h2, hH, hH2, h3⟩ := hin
    simp only [S, List.map_nil, Int.ofNat_eq_natCast, Int.natCast_zero, List.length_append, List.length_cons, List.length_nil, Nat.zero_add, Nat.reduceAdd] at h2
    by_cases k1 : (8 : Int) < (g.acts.length : Int)
    · right; simp [↓ev_loop, ev, evOps, evOp, wants, req, reqCall, inOf, evOpd, ofConst, ofCell, hands, Ann.mem, Env.get, Env.set, gives, handT, Op.operands, Call.operands, meet, putD, params, AV.strip, keepAt, lookN, Env.keep, binAV, intBinAV, headId, tidy, flagOp, nilConst, List.filterMap_cons, List.filterMap_nil, outOf, resAll, resOf, reifyR, reify, reifyP, clo, cloL, cloLL, cloEnv, loadBox, storeBox, okPut, buildElems, buildCells, int_beq, int_bne, h0, hg, k1, S]
    · by_cases k2 : (60 : Int) < g.prior.size
      · right; simp [↓ev_loop, ev, evOps, evOp, wants, req, reqCall, inOf, evOpd, ofConst, ofCell, hands, Ann.mem, Env.get, Env.set, gives, handT, Op.operands, Call.operands, meet, putD, params, AV.strip, keepAt, lookN, Env.keep, binAV, intBinAV, headId, tidy, flagOp, nilConst, List.filterMap_cons, List.filterMap_nil, outOf, resAll, resOf, reifyR, reify, reifyP, clo, cloL, cloLL, cloEnv, loadBox, storeBox, okPut, buildElems, buildCells, int_beq, int_bne, h0, hg, k1, k2, S]
      · rcases h3 with ⟨rfl, gs, g0, g1, g5, g6⟩ | ⟨rfl, h3⟩
        · left
          obtain ⟨W, hW⟩ : ∃ W, W = w + nItems g.acts := ⟨_, rfl⟩
          rw [← hW] at gs g5
          refine ⟨(s + 1, W), ?_, ⟨hlt, by simp only [ht2]; exact hW, by simp only; omega, ?_⟩, by simp only; omega⟩
          · simp [↓ev_loop, ev, evOps, evOp, wants, req, reqCall, inOf, evOpd, ofConst, ofCell, hands, Ann.mem, Env.get, Env.set, gives, handT, Op.operands, Call.operands, meet, putD, params, AV.strip, keepAt, lookN, Env.keep, binAV, intBinAV, headId, tidy, flagOp, nilConst, List.filterMap_cons, List.filterMap_nil, outOf, resAll, resOf, reifyR, reify, reifyP, clo, cloL, cloLL, cloEnv, loadBox, storeBox, okPut, buildElems, buildCells, int_beq, int_bne, h0, hw, hg, k1, k2, h2, g0, g1, g5, g6, hH, S]
          · intro x hx
            simp only [ht, List.mem_append, List.mem_singleton] at hx
            rcases hx with hx | rfl
            · exact hw4 x hx
            · omega
        · right; simp [↓ev_loop, ev, evOps, evOp, wants, req, reqCall, inOf, evOpd, ofConst, ofCell, hands, Ann.mem, Env.get, Env.set, gives, handT, Op.operands, Call.operands, meet, putD, params, AV.strip, keepAt, lookN, Env.keep, binAV, intBinAV, headId, tidy, flagOp, nilConst, List.filterMap_cons, List.filterMap_nil, outOf, resAll, resOf, reifyR, reify, reifyP, clo, cloL, cloLL, cloEnv, loadBox, storeBox, okPut, buildElems, buildCells, int_beq, int_bne, h0, hg, k1, k2, h2, h3, hH, hH2, S]
  · right
    have h0 : ¬ (s : Int) < (l.length : Int) := by omega
    have : s = l.length := by omega
    subst this
    rw [List.take_length] at hw1 hw4
    simp [↓ev_loop, ev, evOps, evOp, wants, req, reqCall, inOf, evOpd, ofConst, ofCell, hands, Ann.mem, Env.get, Env.set, gives, handT, Op.operands, Call.operands, meet, putD, params, AV.strip, keepAt, lookN, Env.keep, binAV, intBinAV, headId, tidy, flagOp, nilConst, List.filterMap_cons, List.filterMap_nil, outOf, resAll, resOf, reifyR, reify, reifyP, clo, cloL, cloLL, cloEnv, loadBox, storeBox, okPut, buildElems, buildCells, int_beq, int_bne, h0, S]
    exact ⟨by omega, hw4⟩
/-- r28.Few -/
theorem few10 (l : List Gazette) (hl : l.length ≤ 4000000000000000000) (hw0 : ∀ g ∈ l, wfG g) (bs : List Nat) (H : List AO) :
    ∃ r, callD X 10 [S cGazette l, I 30] bs H = some (.bool r, H) ∧ (r = true → l.length ≤ 8 ∧ nItems (l.flatMap Gazette.acts) ≤ 30 ∧ ∀ g ∈ l, g.acts.length ≤ 8) := by
  rw [callD_eq]
  simp only [Xprim]
  unfold runBody
  simp only [XP, Try.func10, Xan10, Xok10]
  obtain ⟨c0, hc0⟩ : ∃ c, (loops (Try.f10.body.getD .skip))[0]? = some c := ⟨_, rfl⟩
  obtain ⟨c1, hc1⟩ : ∃ c, (loops (Try.f10.body.getD .skip))[1]? = some c := ⟨_, rfl⟩
  obtain ⟨c2, hc2⟩ : ∃ c, (loops (Try.f10.body.getD .skip))[2]? = some c := ⟨_, rfl⟩
  have hd0 := hc0
  simp only [Try.f10, loops, List.cons_append, List.nil_append, List.append_nil, List.getElem?_cons_zero, List.getElem?_cons_succ, Option.getD_some, Option.some.injEq] at hd0
  have hd1 := hc1
  simp only [Try.f10, loops, List.cons_append, List.nil_append, List.append_nil, List.getElem?_cons_zero, List.getElem?_cons_succ, Option.getD_some, Option.some.injEq] at hd1
  have hd2 := hc2
  simp only [Try.f10, loops, List.cons_append, List.nil_append, List.append_nil, List.getElem?_cons_zero, List.getElem?_cons_succ, Option.getD_some, Option.some.injEq] at hd2
  simp only [Try.f10]
  (try rw [hd0])
  (try rw [hd1])
  (try rw [hd2])
  by_cases k1 : (8 : Int) < (l.length : Int)
  · simp [↓ev_loop, ev, evOps, evOp, wants, req, reqCall, inOf, evOpd, ofConst, ofCell, hands, Ann.mem, Env.get, Env.set, gives, handT, Op.operands, Call.operands, meet, putD, params, AV.strip, keepAt, lookN, Env.keep, binAV, intBinAV, headId, tidy, flagOp, nilConst, List.filterMap_cons, List.filterMap_nil, outOf, resAll, resOf, reifyR, reify, reifyP, clo, cloL, cloLL, cloEnv, loadBox, storeBox, okPut, buildElems, buildCells, int_beq, int_bne, k1, S]
  · obtain ⟨x, e', H', h1, hH, hH2, h3⟩ := lp10_0 l (H.length :: bs) H c0 hc0 c1 hc1 c2 hc2 (by omega) hw0
    simp only [S, List.map_nil, Int.ofNat_eq_natCast, Int.natCast_zero, List.length_append, List.length_cons, List.length_nil, Nat.zero_add, Nat.reduceAdd] at h1
    rcases h3 with ⟨rfl, h3, h4⟩ | ⟨rfl, h3⟩
    · simp [↓ev_loop, ev, evOps, evOp, wants, req, reqCall, inOf, evOpd, ofConst, ofCell, hands, Ann.mem, Env.get, Env.set, gives, handT, Op.operands, Call.operands, meet, putD, params, AV.strip, keepAt, lookN, Env.keep, binAV, intBinAV, headId, tidy, flagOp, nilConst, List.filterMap_cons, List.filterMap_nil, outOf, resAll, resOf, reifyR, reify, reifyP, clo, cloL, cloLL, cloEnv, loadBox, storeBox, okPut, buildElems, buildCells, int_beq, int_bne, k1, h1, hH, hH2, S]
      exact ⟨by omega, h3, h4⟩
    · simp [↓ev_loop, ev, evOps, evOp, wants, req, reqCall, inOf, evOpd, ofConst, ofCell, hands, Ann.mem, Env.get, Env.set, gives, handT, Op.operands, Call.operands, meet, putD, params, AV.strip, keepAt, lookN, Env.keep, binAV, intBinAV, headId, tidy, flagOp, nilConst, List.filterMap_cons, List.filterMap_nil, outOf, resAll, resOf, reifyR, reify, reifyP, clo, cloL, cloLL, cloEnv, loadBox, storeBox, okPut, buildElems, buildCells, int_beq, int_bne, k1, h1, h3, hH, hH2, S]
end Go.Proofs.Ytlpilgnjlnepeaa.T
