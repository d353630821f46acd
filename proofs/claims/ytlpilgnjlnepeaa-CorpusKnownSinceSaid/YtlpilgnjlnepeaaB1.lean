/-
  What the functions answer: enacted items, finding, the reference's acts.
-/
import Derived.Test.YtlpilgnjlnepeaaA1
set_option linter.all false
namespace Go.Proofs.Ytlpilgnjlnepeaa.T
open Go.VM Go.Proofs
set_option linter.unusedSimpArgs false
set_option maxHeartbeats 16000000
set_option maxRecDepth 10000

/-! zero values, typed -/
def zUnit : Unit := .mk ⟨0, 0, 0⟩ 0 ByteArray.empty [] [] []
def zItem : Item := .mk 0 [] [] 0 0 zUnit [] [] ByteArray.empty ByteArray.empty ⟨0, 0, ByteArray.empty⟩ 0 0 0 ByteArray.empty []
def zAct : Act := ⟨0, ByteArray.empty, 0, ⟨0, 0, ByteArray.empty⟩, []⟩
def zGaz : Gazette := ⟨0, 0, ByteArray.empty, []⟩
def zEI : EI := ⟨0, 0, 0, zItem⟩
@[simp high] theorem zr42h : zrOf Try.prog 42 = some (cItem zItem) := zr42
@[simp high] theorem zr44h : zrOf Try.prog 44 = some (cEI zEI) := zr44
@[simp high] theorem zr57h : zrOf Try.prog 57 = some (cAct zAct) := zr57
@[simp high] theorem zr60h : zrOf Try.prog 60 = some (cGazette zGaz) := zr60
theorem zv42' : zvOf Try.prog 42 = some (.agg [.int .i64 0, .slc false [], .slc false [], .int .i64 0, .int .i64 0, .int .i64 0, .int .i64 0, .int .i64 0, .int .i64 0, .str ByteArray.empty, .slc false [], .slc false [], .slc false [], .slc false [], .slc false [], .str ByteArray.empty, .str ByteArray.empty, .int .i64 0, .int .i64 0, .str ByteArray.empty, .int .i64 0, .int .i64 0, .int .i64 0, .str ByteArray.empty, .slc false []]) := by kernel_rfl
@[simp high] theorem zv42 : zvOf Try.prog 42 = some (.agg (cItem zItem)) := zv42'
theorem splice_len (xs ys : List AV) (h : xs.length = ys.length) : splice xs 0 ys = ys := by
  simp [splice, List.drop_of_length_le, h]
@[simp high] theorem spItem (x y : Item) : splice (cItem x) 0 (cItem y) = cItem y := splice_len _ _ (by simp)
@[simp high] theorem spEI (x y : EI) : splice (cEI x) 0 (cEI y) = cEI y := splice_len _ _ (by simp)
@[simp high] theorem spAct (x y : Act) : splice (cAct x) 0 (cAct y) = cAct y := splice_len _ _ (by simp)
@[simp high] theorem spGaz (x y : Gazette) : splice (cGazette x) 0 (cGazette y) = cGazette y := splice_len _ _ (by simp)
@[simp high] theorem spEIt (x : EI) (y : Item) : splice (cEI x) 3 (cItem y) = cEI ⟨x.act, x.item, x.day, y⟩ := by
  simp [splice, cEI_eq, List.drop_of_length_le]
theorem fit3 (n : Int) : fitCells Try.prog 3 (I n) = some [I n] := by simp [fitCells, AV.cells, AV.one]
@[simp] theorem fit3' (n : Int) : fitCells Try.prog 3 (AV.int .i64 n) = some [I n] := fit3 n
@[simp] theorem fit9 (n : ByteArray) : fitCells Try.prog 9 (.str n) = some [.str n] := by simp [fitCells, AV.cells, AV.one]
@[simp] theorem fit4 (n : Bool) : fitCells Try.prog 4 (.bool n) = some [.bool n] := by simp [fitCells, AV.cells, AV.one]
theorem sp44_0 (x : EI) (n : Int) : splice (cEI x) 0 [I n] = cEI ⟨n, x.item, x.day, x.it⟩ := by simp [splice, cEI_eq]
theorem sp44_1 (x : EI) (n : Int) : splice (cEI x) 1 [I n] = cEI ⟨x.act, n, x.day, x.it⟩ := by simp [splice, cEI_eq]
theorem sp44_2 (x : EI) (n : Int) : splice (cEI x) 2 [I n] = cEI ⟨x.act, x.item, n, x.it⟩ := by simp [splice, cEI_eq]
@[simp high] theorem build44 (a k d : Int) (x : Item) : buildCells Try.prog 44 [(0, I a), (1, I k), (2, I d), (3, .agg (cItem x))] (cEI zEI) = some (cEI ⟨a, k, d, x⟩) := by
  simp [buildCells, sp44_0, sp44_1, sp44_2]
@[simp high] theorem build44z : buildCells Try.prog 44 [] (cEI zEI) = some (cEI zEI) := rfl
def cz (x y : Int) : Int := if x < y then -1 else if y < x then 1 else 0
theorem chg55 (k : Int) (bs : List Nat) (H : List AO) : callD X 55 [I k] bs H = some (.bool (decide (0 ≤ k ∧ k ≤ 6)), H) := by
  rw [callD_eq]
  simp only [Xprim]
  unfold runBody
  simp only [XP, Try.func55, Xan55, Xok55]
  by_cases h1 : 0 ≤ k <;> by_cases h2 : k ≤ 6 <;> simp [h1, h2, Try.f55, ↓ev_loop, ev, evOps, evOp, wants, req, reqCall, inOf, evOpd, ofConst, ofCell, hands, Ann.mem, Env.get, Env.set, gives, handT, Op.operands, Call.operands, meet, putD, params, AV.strip, keepAt, lookN, Env.keep, binAV, intBinAV, headId, tidy, flagOp, nilConst, List.filterMap_cons, List.filterMap_nil, outOf, resAll, resOf, reifyR, reify, reifyP, clo, cloL, cloLL, cloEnv, loadBox, storeBox, okPut, buildElems, buildCells, int_beq, int_bne]
theorem chg32 (k : Int) (bs : List Nat) (H : List AO) : callD X 32 [I k] bs H = some (.bool (decide (0 ≤ k ∧ k ≤ 6)), H) := by
  rw [callD_eq]
  simp only [Xprim]
  unfold runBody
  simp only [XP, Try.func32, Xan32, Xok32]
  by_cases h1 : 0 ≤ k <;> by_cases h2 : k ≤ 6 <;> simp [h1, h2, Try.f32, ↓ev_loop, ev, evOps, evOp, wants, req, reqCall, inOf, evOpd, ofConst, ofCell, hands, Ann.mem, Env.get, Env.set, gives, handT, Op.operands, Call.operands, meet, putD, params, AV.strip, keepAt, lookN, Env.keep, binAV, intBinAV, headId, tidy, flagOp, nilConst, List.filterMap_cons, List.filterMap_nil, outOf, resAll, resOf, reifyR, reify, reifyP, clo, cloL, cloLL, cloEnv, loadBox, storeBox, okPut, buildElems, buildCells, int_beq, int_bne]
theorem nan58 (k : Int) (bs : List Nat) (H : List AO) : callD X 58 [I k] bs H = some (.bool false, H) := by
  rw [callD_eq]
  simp only [Xprim]
  unfold runBody
  simp only [XP, Try.func58, Xan58, Xok58]
  simp [Try.f58, ↓ev_loop, ev, evOps, evOp, wants, req, reqCall, inOf, evOpd, ofConst, ofCell, hands, Ann.mem, Env.get, Env.set, gives, handT, Op.operands, Call.operands, meet, putD, params, AV.strip, keepAt, lookN, Env.keep, binAV, intBinAV, headId, tidy, flagOp, nilConst, List.filterMap_cons, List.filterMap_nil, outOf, resAll, resOf, reifyR, reify, reifyP, clo, cloL, cloLL, cloEnv, loadBox, storeBox, okPut, buildElems, buildCells, int_beq, int_bne]
theorem cmp44 (x y : Int) (bs : List Nat) (H : List AO) : callD X 44 [I x, I y] bs H = some (I (cz x y), H) := by
  rw [callD_eq]
  simp only [Xprim]
  unfold runBody
  simp only [XP, Try.func44, Xan44, Xok44]
  unfold cz
  by_cases h1 : x < y <;> by_cases h2 : y < x <;> simp [h1, h2, nan58, Try.f44, ↓ev_loop, ev, evOps, evOp, wants, req, reqCall, inOf, evOpd, ofConst, ofCell, hands, Ann.mem, Env.get, Env.set, gives, handT, Op.operands, Call.operands, meet, putD, params, AV.strip, keepAt, lookN, Env.keep, binAV, intBinAV, headId, tidy, flagOp, nilConst, List.filterMap_cons, List.filterMap_nil, outOf, resAll, resOf, reifyR, reify, reifyP, clo, cloL, cloLL, cloEnv, loadBox, storeBox, okPut, buildElems, buildCells, int_beq, int_bne]
def orZ : List Int → Int
  | [] => 0
  | x :: r => if x = 0 then orZ r else x

theorem lp43 (l : List Int) (bs : List Nat) (H : List AO) (c0 : Code) (hc0 : (loops (Try.f43.body.getD .skip))[0]? = some c0) (hl : l.length ≤ 4000000000000000000) :
    ∃ x e' H', lev Try.prog an43 (callD X) c0 bs ((fun s : Nat => [(3, I 0), (6, S cInt l), (7, I l.length), (8, I s)]) (0)) ((fun s : Nat => H) (0)) = some (x, e', H') ∧ (H' = H ∧ ((x = .exit 0 ∧ e'.get 3 = I 0 ∧ orZ l = 0) ∨ (x = .ret ∧ e'.get 2 = I (orZ l)))) := by
  simp only [Try.f43, loops, List.cons_append, List.nil_append, List.append_nil, List.getElem?_cons_zero, List.getElem?_cons_succ, Option.getD_some, Option.some.injEq] at hc0
  refine lev_inv (σ := Nat) (fun s => [(3, I 0), (6, S cInt l), (7, I l.length), (8, I s)]) (fun s => H) (fun s => s ≤ l.length ∧ orZ l = orZ (l.drop s)) (fun s => l.length - s) (fun x e' H' => H' = H ∧ ((x = .exit 0 ∧ e'.get 3 = I 0 ∧ orZ l = 0) ∨ (x = .ret ∧ e'.get 2 = I (orZ l)))) (0) ?_ ?_ ?_ ?_ ?_
  · simp
  · intro s hs; simp
  · intro s hs; simp [cloEnv, clo, S]
  · intro s hs; subst hc0; simp [keepAt, headId, lookN, Env.keep, Env.get]
  intro s hs
  subst hc0
  obtain ⟨hs, hz⟩ := hs
  rcases Nat.lt_or_ge s l.length with hlt | hge
  · have h0 : (s : Int) < (l.length : Int) := by omega
    have hw := wrap_s s (by omega)
    have hg : l[s]? = some l[s] := by simp [hlt]
    rw [List.drop_eq_getElem_cons hlt] at hz
    generalize l[s] = g at hg hz
    by_cases h1 : g = 0
    · left; exact ⟨s + 1, by simp [↓ev_loop, ev, evOps, evOp, wants, req, reqCall, inOf, evOpd, ofConst, ofCell, hands, Ann.mem, Env.get, Env.set, gives, handT, Op.operands, Call.operands, meet, putD, params, AV.strip, keepAt, lookN, Env.keep, binAV, intBinAV, headId, tidy, flagOp, nilConst, List.filterMap_cons, List.filterMap_nil, outOf, resAll, resOf, reifyR, reify, reifyP, clo, cloL, cloLL, cloEnv, loadBox, storeBox, okPut, buildElems, buildCells, int_beq, int_bne, h0, hw, hg, h1, S], ⟨hlt, by simpa [orZ, h1] using hz⟩, by omega⟩
    · right; simp [↓ev_loop, ev, evOps, evOp, wants, req, reqCall, inOf, evOpd, ofConst, ofCell, hands, Ann.mem, Env.get, Env.set, gives, handT, Op.operands, Call.operands, meet, putD, params, AV.strip, keepAt, lookN, Env.keep, binAV, intBinAV, headId, tidy, flagOp, nilConst, List.filterMap_cons, List.filterMap_nil, outOf, resAll, resOf, reifyR, reify, reifyP, clo, cloL, cloLL, cloEnv, loadBox, storeBox, okPut, buildElems, buildCells, int_beq, int_bne, h0, hw, hg, h1, S]; simpa [orZ, h1] using hz.symm
  · right
    have h0 : ¬ (s : Int) < (l.length : Int) := by omega
    rw [List.drop_of_length_le hge] at hz
    simp [↓ev_loop, ev, evOps, evOp, wants, req, reqCall, inOf, evOpd, ofConst, ofCell, hands, Ann.mem, Env.get, Env.set, gives, handT, Op.operands, Call.operands, meet, putD, params, AV.strip, keepAt, lookN, Env.keep, binAV, intBinAV, headId, tidy, flagOp, nilConst, List.filterMap_cons, List.filterMap_nil, outOf, resAll, resOf, reifyR, reify, reifyP, clo, cloL, cloLL, cloEnv, loadBox, storeBox, okPut, buildElems, buildCells, int_beq, int_bne, h0, S]
    exact hz
theorem or43 (l : List Int) (hl : l.length ≤ 4000000000000000000) (bs : List Nat) (H : List AO) : callD X 43 [S cInt l] bs H = some (I (orZ l), H) := by
  rw [callD_eq]
  simp only [Xprim]
  unfold runBody
  simp only [XP, Try.func43, Xan43, Xok43]
  obtain ⟨c0, hc0⟩ : ∃ c, (loops (Try.f43.body.getD .skip))[0]? = some c := ⟨_, rfl⟩
  have hd0 := hc0
  simp only [Try.f43, loops, List.cons_append, List.nil_append, List.append_nil, List.getElem?_cons_zero, List.getElem?_cons_succ, Option.getD_some, Option.some.injEq] at hd0
  simp only [Try.f43]
  (try rw [hd0])
  obtain ⟨x, e', H', h1, rfl, h2⟩ := lp43 l (H.length :: bs) H c0 hc0 hl
  simp only [S, List.map_nil, Int.ofNat_eq_natCast, Int.natCast_zero, List.length_append, List.length_cons, List.length_nil, Nat.zero_add, Nat.reduceAdd] at h1
  rcases h2 with ⟨rfl, h3, h4⟩ | ⟨rfl, h3⟩
  · simp [↓ev_loop, ev, evOps, evOp, wants, req, reqCall, inOf, evOpd, ofConst, ofCell, hands, Ann.mem, Env.get, Env.set, gives, handT, Op.operands, Call.operands, meet, putD, params, AV.strip, keepAt, lookN, Env.keep, binAV, intBinAV, headId, tidy, flagOp, nilConst, List.filterMap_cons, List.filterMap_nil, outOf, resAll, resOf, reifyR, reify, reifyP, clo, cloL, cloLL, cloEnv, loadBox, storeBox, okPut, buildElems, buildCells, int_beq, int_bne, h1, h3, h4, S]
  · simp [↓ev_loop, ev, evOps, evOp, wants, req, reqCall, inOf, evOpd, ofConst, ofCell, hands, Ann.mem, Env.get, Env.set, gives, handT, Op.operands, Call.operands, meet, putD, params, AV.strip, keepAt, lookN, Env.keep, binAV, intBinAV, headId, tidy, flagOp, nilConst, List.filterMap_cons, List.filterMap_nil, outOf, resAll, resOf, reifyR, reify, reifyP, clo, cloL, cloLL, cloEnv, loadBox, storeBox, okPut, buildElems, buildCells, int_beq, int_bne, h1, h3, S]
theorem cmp42 (a b : Act) (bs : List Nat) (H : List AO) : callD X 42 [.agg (cAct a), .agg (cAct b)] bs H = some (I (orZ [cz a.day b.day, cz a.number b.number]), H) := by
  rw [callD_eq]
  simp only [Xprim]
  unfold runBody
  simp only [XP, Try.func42, Xan42, Xok42]
  have h43 : ∀ (x y : Int) (bs : List Nat) (H : List AO), callD X 43 [.slc false [[I x], [I y]]] bs H = some (I (orZ [x, y]), H) := fun x y bs H => or43 [x, y] (by simp) bs H
  simp [Try.f42, ↓ev_loop, ev, evOps, evOp, wants, req, reqCall, inOf, evOpd, ofConst, ofCell, hands, Ann.mem, Env.get, Env.set, gives, handT, Op.operands, Call.operands, meet, putD, params, AV.strip, keepAt, lookN, Env.keep, binAV, intBinAV, headId, tidy, flagOp, nilConst, List.filterMap_cons, List.filterMap_nil, outOf, resAll, resOf, reifyR, reify, reifyP, clo, cloL, cloLL, cloEnv, loadBox, storeBox, okPut, buildElems, buildCells, int_beq, int_bne, evDraw, evOpsD, evOpD, meetD, numbered, newsOf, newsIn, footsOk, apartF, clash, prec, Region.binds, cmp44, h43]
theorem cmp23 (a b : EI) (bs : List Nat) (H : List AO) : callD X 23 [.agg (cEI a), .agg (cEI b)] bs H = some (I (orZ [cz a.day b.day, cz a.act b.act, cz a.item b.item]), H) := by
  rw [callD_eq]
  simp only [Xprim]
  unfold runBody
  simp only [XP, Try.func23, Xan23, Xok23]
  have h43 : ∀ (x y z : Int) (bs : List Nat) (H : List AO), callD X 43 [.slc false [[I x], [I y], [I z]]] bs H = some (I (orZ [x, y, z]), H) := fun x y z bs H => or43 [x, y, z] (by simp) bs H
  simp (config := { maxSteps := 2000000 }) [Try.f23, ↓ev_loop, ev, evOps, evOp, wants, req, reqCall, inOf, evOpd, ofConst, ofCell, hands, Ann.mem, Env.get, Env.set, gives, handT, Op.operands, Call.operands, meet, putD, params, AV.strip, keepAt, lookN, Env.keep, binAV, intBinAV, headId, tidy, flagOp, nilConst, List.filterMap_cons, List.filterMap_nil, outOf, resAll, resOf, reifyR, reify, reifyP, clo, cloL, cloLL, cloEnv, loadBox, storeBox, okPut, buildElems, buildCells, int_beq, int_bne, evDraw, evOpsD, evOpD, meetD, numbered, newsOf, newsIn, footsOk, apartF, clash, prec, Region.binds, cmp44, h43]
theorem ahead47 (a b : Act) (bs : List Nat) (H : List AO) : callD X 47 [.agg (cAct a), .agg (cAct b)] bs H = some (.bool (if a.day = b.day then decide (a.number < b.number) else decide (a.day < b.day)), H) := by
  rw [callD_eq]
  simp only [Xprim]
  unfold runBody
  simp only [XP, Try.func47, Xan47, Xok47]
  by_cases h1 : a.day = b.day <;> by_cases h2 : a.number < b.number <;> by_cases h3 : a.day < b.day <;> simp [h1, h2, h3, Try.f47, ↓ev_loop, ev, evOps, evOp, wants, req, reqCall, inOf, evOpd, ofConst, ofCell, hands, Ann.mem, Env.get, Env.set, gives, handT, Op.operands, Call.operands, meet, putD, params, AV.strip, keepAt, lookN, Env.keep, binAV, intBinAV, headId, tidy, flagOp, nilConst, List.filterMap_cons, List.filterMap_nil, outOf, resAll, resOf, reifyR, reify, reifyP, clo, cloL, cloLL, cloEnv, loadBox, storeBox, okPut, buildElems, buildCells, int_beq, int_bne]
theorem ei_ext {a b : EI} (h1 : a.act = b.act) (h2 : a.item = b.item) (h3 : a.day = b.day) (h4 : a.it = b.it) : a = b := by
  cases a; cases b; simp_all
theorem eq17 (a b : EI) (hw : wfI a.it) (bs : List Nat) (H : List AO) : callD X 17 [.agg (cEI a), .agg (cEI b)] bs H = some (.bool (beqP a b), H) := by
  have hr := fun y bs H => eq26 _ a.it y (Nat.lt_succ_self _) hw bs H
  rw [callD_eq]
  simp only [Xprim]
  unfold runBody
  simp only [XP, Try.func17, Xan17, Xok17]
  by_cases h1 : a.act = b.act
  rotate_left
  · have hne : a ≠ b := by rintro rfl; exact h1 rfl
    simp [Try.f17, ↓ev_loop, ev, evOps, evOp, wants, req, reqCall, inOf, evOpd, ofConst, ofCell, hands, Ann.mem, Env.get, Env.set, gives, handT, Op.operands, Call.operands, meet, putD, params, AV.strip, keepAt, lookN, Env.keep, binAV, intBinAV, headId, tidy, flagOp, nilConst, List.filterMap_cons, List.filterMap_nil, outOf, resAll, resOf, reifyR, reify, reifyP, clo, cloL, cloLL, cloEnv, loadBox, storeBox, okPut, buildElems, buildCells, int_beq, int_bne, h1, beqP_ne hne]
  by_cases h2 : a.item = b.item
  rotate_left
  · have hne : a ≠ b := by rintro rfl; exact h2 rfl
    simp [Try.f17, ↓ev_loop, ev, evOps, evOp, wants, req, reqCall, inOf, evOpd, ofConst, ofCell, hands, Ann.mem, Env.get, Env.set, gives, handT, Op.operands, Call.operands, meet, putD, params, AV.strip, keepAt, lookN, Env.keep, binAV, intBinAV, headId, tidy, flagOp, nilConst, List.filterMap_cons, List.filterMap_nil, outOf, resAll, resOf, reifyR, reify, reifyP, clo, cloL, cloLL, cloEnv, loadBox, storeBox, okPut, buildElems, buildCells, int_beq, int_bne, h1, h2, beqP_ne hne]
  by_cases h3 : a.day = b.day
  rotate_left
  · have hne : a ≠ b := by rintro rfl; exact h3 rfl
    simp [Try.f17, ↓ev_loop, ev, evOps, evOp, wants, req, reqCall, inOf, evOpd, ofConst, ofCell, hands, Ann.mem, Env.get, Env.set, gives, handT, Op.operands, Call.operands, meet, putD, params, AV.strip, keepAt, lookN, Env.keep, binAV, intBinAV, headId, tidy, flagOp, nilConst, List.filterMap_cons, List.filterMap_nil, outOf, resAll, resOf, reifyR, reify, reifyP, clo, cloL, cloLL, cloEnv, loadBox, storeBox, okPut, buildElems, buildCells, int_beq, int_bne, h1, h2, h3, beqP_ne hne]
  by_cases h4 : a.it = b.it
  · have hab := beqP_iff.2 (ei_ext h1 h2 h3 h4)
    have e4 := beqP_iff.2 h4
    simp [Try.f17, ↓ev_loop, ev, evOps, evOp, wants, req, reqCall, inOf, evOpd, ofConst, ofCell, hands, Ann.mem, Env.get, Env.set, gives, handT, Op.operands, Call.operands, meet, putD, params, AV.strip, keepAt, lookN, Env.keep, binAV, intBinAV, headId, tidy, flagOp, nilConst, List.filterMap_cons, List.filterMap_nil, outOf, resAll, resOf, reifyR, reify, reifyP, clo, cloL, cloLL, cloEnv, loadBox, storeBox, okPut, buildElems, buildCells, int_beq, int_bne, h1, h2, h3, e4, hr, hab]
  · have hne : a ≠ b := by rintro rfl; exact h4 rfl
    simp [Try.f17, ↓ev_loop, ev, evOps, evOp, wants, req, reqCall, inOf, evOpd, ofConst, ofCell, hands, Ann.mem, Env.get, Env.set, gives, handT, Op.operands, Call.operands, meet, putD, params, AV.strip, keepAt, lookN, Env.keep, binAV, intBinAV, headId, tidy, flagOp, nilConst, List.filterMap_cons, List.filterMap_nil, outOf, resAll, resOf, reifyR, reify, reifyP, clo, cloL, cloLL, cloEnv, loadBox, storeBox, okPut, buildElems, buildCells, int_beq, int_bne, h1, h2, h3, beqP_ne h4, hr, beqP_ne hne]
theorem alike36 (a b : EI) (hw : wfI a.it) (bs : List Nat) (H : List AO) : callD X 36 [.agg (cEI a), .agg (cEI b)] bs H = some (.bool (decide (orZ [cz a.day b.day, cz a.act b.act, cz a.item b.item] = 0) && beqP a.it b.it), H) := by
  have hr := fun y bs H => eq56 _ a.it y (Nat.lt_succ_self _) hw bs H
  rw [callD_eq]
  simp only [Xprim]
  unfold runBody
  simp only [XP, Try.func36, Xan36, Xok36]
  have hc := fun bs H => cmp23 a b bs H
  generalize orZ [cz a.day b.day, cz a.act b.act, cz a.item b.item] = z at hc
  by_cases h1 : z = 0
  · simp [Try.f36, ↓ev_loop, ev, evOps, evOp, wants, req, reqCall, inOf, evOpd, ofConst, ofCell, hands, Ann.mem, Env.get, Env.set, gives, handT, Op.operands, Call.operands, meet, putD, params, AV.strip, keepAt, lookN, Env.keep, binAV, intBinAV, headId, tidy, flagOp, nilConst, List.filterMap_cons, List.filterMap_nil, outOf, resAll, resOf, reifyR, reify, reifyP, clo, cloL, cloLL, cloEnv, loadBox, storeBox, okPut, buildElems, buildCells, int_beq, int_bne, h1, hr, hc]
  · simp [Try.f36, ↓ev_loop, ev, evOps, evOp, wants, req, reqCall, inOf, evOpd, ofConst, ofCell, hands, Ann.mem, Env.get, Env.set, gives, handT, Op.operands, Call.operands, meet, putD, params, AV.strip, keepAt, lookN, Env.keep, binAV, intBinAV, headId, tidy, flagOp, nilConst, List.filterMap_cons, List.filterMap_nil, outOf, resAll, resOf, reifyR, reify, reifyP, clo, cloL, cloLL, cloEnv, loadBox, storeBox, okPut, buildElems, buildCells, int_beq, int_bne, h1, hr, hc]
end Go.Proofs.Ytlpilgnjlnepeaa.T
namespace Go.Proofs.Ytlpilgnjlnepeaa.T
open Go.VM Go.Proofs
set_option linter.unusedSimpArgs false
set_option maxHeartbeats 16000000
set_option maxRecDepth 10000

@[simp] theorem uni_nil (k : Nat) : uni k [] = true := rfl
@[simp] theorem uni_cons (k : Nat) (e : List AV) (es : List (List AV)) : uni k (e :: es) = (e.length == k && uni k es) := rfl
@[simp] theorem uniAct (xs : List Act) : uni 7 (xs.map cAct) = true := uni_map cAct 7 len_cAct xs
@[simp] theorem uniEI (xs : List EI) : uni 28 (xs.map cEI) = true := uni_map cEI 28 len_cEI xs
@[simp] theorem uniInt (xs : List Int) : uni 1 (xs.map cInt) = true := uni_map cInt 1 len_cInt xs
@[simp] theorem uniGaz (xs : List Gazette) : uni 4 (xs.map cGazette) = true := uni_map cGazette 4 len_cGazette xs
/-! act.EnactedItems -/
def eFrom (a : Act) : Nat → List Item → List EI
  | _, [] => []
  | i, x :: r => ⟨a.number, i, a.day, x⟩ :: eFrom a (i + 1) r
theorem eFrom_app (a : Act) (xs ys : List Item) : ∀ i, eFrom a i (xs ++ ys) = eFrom a i xs ++ eFrom a (i + xs.length) ys := by
  induction xs with
  | nil => intro i; rfl
  | cons x xs ih => intro i; simp only [List.cons_append, eFrom, ih, List.length_cons]; congr 3; omega
theorem eFrom_len (a : Act) (xs : List Item) : ∀ i, (eFrom a i xs).length = xs.length := by
  induction xs with
  | nil => intro i; rfl
  | cons x xs ih => intro i; simp [eFrom, ih]
def eItems (a : Act) : List EI := eFrom a 0 a.items

theorem lp31 (a : Act) (p : Nat) (bs : List Nat) (H : List AO) (c0 : Code) (hc0 : (loops (Try.f31.body.getD .skip))[0]? = some c0) (hA : H[p]? = some (.box (cAct a))) (hl : a.items.length ≤ 10000) :
    ∃ x e' H', lev Try.prog an31 (callD X) c0 bs ((fun s : Nat × List EI => [(1, .ptr p 0), (3, .slc true (s.2.map cEI)), (7, S cItem a.items), (8, I a.items.length), (9, I s.1)]) ((0, []))) ((fun s : Nat × List EI => H) ((0, []))) = some (x, e', H') ∧ (H' = H ∧ x = .exit 0 ∧ e'.get 3 = .slc true ((eItems a).map cEI)) := by
  simp only [Try.f31, loops, List.cons_append, List.nil_append, List.append_nil, List.getElem?_cons_zero, List.getElem?_cons_succ, Option.getD_some, Option.some.injEq] at hc0
  refine lev_inv (σ := Nat × List EI) (fun s => [(1, .ptr p 0), (3, .slc true (s.2.map cEI)), (7, S cItem a.items), (8, I a.items.length), (9, I s.1)]) (fun s => H) (fun s => s.1 ≤ a.items.length ∧ s.2 = eFrom a 0 (a.items.take s.1)) (fun s => a.items.length - s.1) (fun x e' H' => H' = H ∧ x = .exit 0 ∧ e'.get 3 = .slc true ((eItems a).map cEI)) ((0, [])) ?_ ?_ ?_ ?_ ?_
  · exact ⟨Nat.zero_le _, rfl⟩
  · intro s hs; simp
  · intro s hs; simp [cloEnv, clo, S, lt_of_get hA]
  · intro s hs; subst hc0; simp [keepAt, headId, lookN, Env.keep, Env.get]
  intro s hs
  subst hc0
  have hp := lt_of_get hA
  obtain ⟨s, acc⟩ := s
  obtain ⟨hs, ha⟩ := hs
  simp only at hs ha ⊢
  rcases Nat.lt_or_ge s a.items.length with hlt | hge
  · left
    have h0 : (s : Int) < (a.items.length : Int) := by omega
    have hw := wrap_s s (by omega)
    have hg : a.items[s]? = some a.items[s] := by simp [hlt]
    have hln : acc.length = s := by rw [ha, eFrom_len, List.length_take]; omega
    have ha2 : eFrom a 0 (a.items.take (s + 1)) = acc ++ [⟨a.number, s, a.day, a.items[s]⟩] := by
      rw [take_s _ s hlt, eFrom_app, ← ha]; simp only [eFrom, List.length_take]; congr 4; omega
    refine ⟨(s + 1, acc ++ [⟨a.number, s, a.day, a.items[s]⟩]), ?_, ⟨hlt, ha2.symm⟩, by simp only; omega⟩
    generalize a.items[s] = g at hg
    have hn : acc.length + 1 ≤ 10001 := by omega
    have h5 : (acc.length + 1) * 392 ≤ 140737488355328 := by omega
    have h6 : acc.length + 1 ≤ 140737488355328 := by omega
    have hA2 : (H ++ [.box (cItem g)])[p]? = some (.box (cAct a)) := by rw [List.getElem?_append_left hp]; exact hA
    simp [↓ev_loop, ev, evOps, evOp, wants, req, reqCall, inOf, evOpd, ofConst, ofCell, hands, Ann.mem, Env.get, Env.set, gives, handT, Op.operands, Call.operands, meet, putD, params, AV.strip, keepAt, lookN, Env.keep, binAV, intBinAV, headId, tidy, flagOp, nilConst, List.filterMap_cons, List.filterMap_nil, outOf, resAll, resOf, reifyR, reify, reifyP, clo, cloL, cloLL, cloEnv, loadBox, storeBox, okPut, buildElems, buildCells, int_beq, int_bne, h0, hw, hg, hA, hA2, hp, S, h5, h6]
  · right
    have h0 : ¬ (s : Int) < (a.items.length : Int) := by omega
    rw [List.take_of_length_le hge] at ha
    simp [↓ev_loop, ev, evOps, evOp, wants, req, reqCall, inOf, evOpd, ofConst, ofCell, hands, Ann.mem, Env.get, Env.set, gives, handT, Op.operands, Call.operands, meet, putD, params, AV.strip, keepAt, lookN, Env.keep, binAV, intBinAV, headId, tidy, flagOp, nilConst, List.filterMap_cons, List.filterMap_nil, outOf, resAll, resOf, reifyR, reify, reifyP, clo, cloL, cloLL, cloEnv, loadBox, storeBox, okPut, buildElems, buildCells, int_beq, int_bne, h0, S, ha, eItems]
theorem en31 (a : Act) (hl : a.items.length ≤ 10000) (bs : List Nat) (H : List AO) : callD X 31 [.agg (cAct a)] bs H = some (.slc true ((eItems a).map cEI), H) := by
  rw [callD_eq]
  simp only [Xprim]
  unfold runBody
  simp only [XP, Try.func31, Xan31, Xok31]
  obtain ⟨c0, hc0⟩ : ∃ c, (loops (Try.f31.body.getD .skip))[0]? = some c := ⟨_, rfl⟩
  have hd0 := hc0
  simp only [Try.f31, loops, List.cons_append, List.nil_append, List.append_nil, List.getElem?_cons_zero, List.getElem?_cons_succ, Option.getD_some, Option.some.injEq] at hd0
  simp only [Try.f31]
  (try rw [hd0])
  obtain ⟨x, e', H', h1, rfl, rfl, h3⟩ := lp31 a H.length (H.length :: bs) (H ++ [.box (cAct a)]) c0 hc0 (by simp) hl
  simp only [S, List.map_nil, Int.ofNat_eq_natCast, Int.natCast_zero, List.length_append, List.length_cons, List.length_nil, Nat.zero_add, Nat.reduceAdd] at h1
  simp [↓ev_loop, ev, evOps, evOp, wants, req, reqCall, inOf, evOpd, ofConst, ofCell, hands, Ann.mem, Env.get, Env.set, gives, handT, Op.operands, Call.operands, meet, putD, params, AV.strip, keepAt, lookN, Env.keep, binAV, intBinAV, headId, tidy, flagOp, nilConst, List.filterMap_cons, List.filterMap_nil, outOf, resAll, resOf, reifyR, reify, reifyP, clo, cloL, cloLL, cloEnv, loadBox, storeBox, okPut, buildElems, buildCells, int_beq, int_bne, h1, h3, S]
end Go.Proofs.Ytlpilgnjlnepeaa.T
namespace Go.Proofs.Ytlpilgnjlnepeaa.T
open Go.VM Go.Proofs
set_option linter.unusedSimpArgs false
set_option maxHeartbeats 16000000
set_option maxRecDepth 10000

@[simp] theorem take_app {α : Type} (H r : List α) (k : Nat) : List.take (H.length + k) (H ++ r) = H ++ r.take k := by
  rw [List.take_append, List.take_of_length_le (by omega)]; simp
@[simp] theorem take_app0 {α : Type} (H r : List α) : List.take H.length (H ++ r) = H := by simp
/-! corrections -/
def isC (x : Item) (n k : Int) : Option Item :=
  if x.kind = 11 ∧ x.act = n ∧ x.item = k then (match x.by_ with | b :: _ => if 0 ≤ b.kind ∧ b.kind ≤ 6 then some b else none | [] => none) else none
def stepC (n k : Int) (cur x : Item) : Item := (isC x n k).getD cur
def items (acts : List Act) : List Item := acts.flatMap Act.items
def fixI (acts : List Act) (n k : Int) (it : Item) : Item := if 0 ≤ it.kind ∧ it.kind ≤ 6 then (items acts).foldl (stepC n k) it else it

theorem lp33_1 (acts : List Act) (a : Act) (n k : Int) (p i : Nat) (it : Item) (bs : List Nat) (H : List AO) (c1 : Code) (hc1 : (loops (Try.f33.body.getD .skip))[1]? = some c1) (ha : acts[i]? = some a) (hp : p < H.length) (hl : a.items.length ≤ 10000) :
    ∃ x e' H', lev Try.prog an33 (callD X) c1 bs ((fun s : Nat × Item => [(0, S cAct acts), (1, I n), (2, I k), (8, .ptr p 0), (9, .ptr H.length 0), (10, I i), (11, I s.1)]) ((0, it))) ((fun s : Nat × Item => H ++ [.box (cItem s.2)]) ((0, it))) = some (x, e', H') ∧ (H' = H ++ [.box (cItem (a.items.foldl (stepC n k) it))] ∧ x = .exit 2 ∧ e'.get 0 = S cAct acts ∧ e'.get 1 = I n ∧ e'.get 2 = I k ∧ e'.get 8 = .ptr p 0 ∧ e'.get 9 = .ptr H.length 0 ∧ e'.get 10 = I i) := by
  simp only [Try.f33, loops, List.cons_append, List.nil_append, List.append_nil, List.getElem?_cons_zero, List.getElem?_cons_succ, Option.getD_some, Option.some.injEq] at hc1
  refine lev_inv (σ := Nat × Item) (fun s => [(0, S cAct acts), (1, I n), (2, I k), (8, .ptr p 0), (9, .ptr H.length 0), (10, I i), (11, I s.1)]) (fun s => H ++ [.box (cItem s.2)]) (fun s => s.1 ≤ a.items.length ∧ s.2 = (a.items.take s.1).foldl (stepC n k) it) (fun s => a.items.length - s.1) (fun x e' H' => H' = H ++ [.box (cItem (a.items.foldl (stepC n k) it))] ∧ x = .exit 2 ∧ e'.get 0 = S cAct acts ∧ e'.get 1 = I n ∧ e'.get 2 = I k ∧ e'.get 8 = .ptr p 0 ∧ e'.get 9 = .ptr H.length 0 ∧ e'.get 10 = I i) ((0, it)) ?_ ?_ ?_ ?_ ?_
  · exact ⟨Nat.zero_le _, rfl⟩
  · intro s hs; simp
  · intro s hs; simp [cloEnv, clo, S]; omega
  · intro s hs; subst hc1; simp [keepAt, headId, lookN, Env.keep, Env.get]
  intro s hs
  subst hc1
  obtain ⟨s, cur⟩ := s
  obtain ⟨hs, hc⟩ := hs
  simp only at hs hc ⊢
  rcases Nat.lt_or_ge s a.items.length with hlt | hge
  · left
    have h0 : (s : Int) < (a.items.length : Int) := by omega
    have hw := wrap_s s (by omega)
    have hg : a.items[s]? = some a.items[s] := by simp [hlt]
    have hc2 : (a.items.take (s + 1)).foldl (stepC n k) it = stepC n k cur a.items[s] := by rw [take_s _ s hlt, List.foldl_append, ← hc]; rfl
    refine ⟨(s + 1, stepC n k cur a.items[s]), ?_, ⟨hlt, hc2.symm⟩, by simp only; omega⟩
    clear hc2
    generalize a.items[s] = g at hg
    unfold stepC isC
    by_cases k1 : g.kind = 11
    rotate_left
    · simp [↓ev_loop, ev, evOps, evOp, wants, req, reqCall, inOf, evOpd, ofConst, ofCell, hands, Ann.mem, Env.get, Env.set, gives, handT, Op.operands, Call.operands, meet, putD, params, AV.strip, keepAt, lookN, Env.keep, binAV, intBinAV, headId, tidy, flagOp, nilConst, List.filterMap_cons, List.filterMap_nil, outOf, resAll, resOf, reifyR, reify, reifyP, clo, cloL, cloLL, cloEnv, loadBox, storeBox, okPut, buildElems, buildCells, int_beq, int_bne, h0, hw, hg, ha, k1, S]
    by_cases k2 : g.act = n
    rotate_left
    · simp [↓ev_loop, ev, evOps, evOp, wants, req, reqCall, inOf, evOpd, ofConst, ofCell, hands, Ann.mem, Env.get, Env.set, gives, handT, Op.operands, Call.operands, meet, putD, params, AV.strip, keepAt, lookN, Env.keep, binAV, intBinAV, headId, tidy, flagOp, nilConst, List.filterMap_cons, List.filterMap_nil, outOf, resAll, resOf, reifyR, reify, reifyP, clo, cloL, cloLL, cloEnv, loadBox, storeBox, okPut, buildElems, buildCells, int_beq, int_bne, h0, hw, hg, ha, k1, k2, S]
    by_cases k3 : g.item = k
    rotate_left
    · simp [↓ev_loop, ev, evOps, evOp, wants, req, reqCall, inOf, evOpd, ofConst, ofCell, hands, Ann.mem, Env.get, Env.set, gives, handT, Op.operands, Call.operands, meet, putD, params, AV.strip, keepAt, lookN, Env.keep, binAV, intBinAV, headId, tidy, flagOp, nilConst, List.filterMap_cons, List.filterMap_nil, outOf, resAll, resOf, reifyR, reify, reifyP, clo, cloL, cloLL, cloEnv, loadBox, storeBox, okPut, buildElems, buildCells, int_beq, int_bne, h0, hw, hg, ha, k1, k2, k3, S]
    cases hb : g.by_ with
    | nil => simp [↓ev_loop, ev, evOps, evOp, wants, req, reqCall, inOf, evOpd, ofConst, ofCell, hands, Ann.mem, Env.get, Env.set, gives, handT, Op.operands, Call.operands, meet, putD, params, AV.strip, keepAt, lookN, Env.keep, binAV, intBinAV, headId, tidy, flagOp, nilConst, List.filterMap_cons, List.filterMap_nil, outOf, resAll, resOf, reifyR, reify, reifyP, clo, cloL, cloLL, cloEnv, loadBox, storeBox, okPut, buildElems, buildCells, int_beq, int_bne, h0, hw, hg, ha, k1, k2, k3, hb, S]
    | cons b r =>
      by_cases k5 : 0 ≤ b.kind ∧ b.kind ≤ 6
      · simp [↓ev_loop, ev, evOps, evOp, wants, req, reqCall, inOf, evOpd, ofConst, ofCell, hands, Ann.mem, Env.get, Env.set, gives, handT, Op.operands, Call.operands, meet, putD, params, AV.strip, keepAt, lookN, Env.keep, binAV, intBinAV, headId, tidy, flagOp, nilConst, List.filterMap_cons, List.filterMap_nil, outOf, resAll, resOf, reifyR, reify, reifyP, clo, cloL, cloLL, cloEnv, loadBox, storeBox, okPut, buildElems, buildCells, int_beq, int_bne, h0, hw, hg, ha, k1, k2, k3, hb, chg55, k5, S]
      · simp [↓ev_loop, ev, evOps, evOp, wants, req, reqCall, inOf, evOpd, ofConst, ofCell, hands, Ann.mem, Env.get, Env.set, gives, handT, Op.operands, Call.operands, meet, putD, params, AV.strip, keepAt, lookN, Env.keep, binAV, intBinAV, headId, tidy, flagOp, nilConst, List.filterMap_cons, List.filterMap_nil, outOf, resAll, resOf, reifyR, reify, reifyP, clo, cloL, cloLL, cloEnv, loadBox, storeBox, okPut, buildElems, buildCells, int_beq, int_bne, h0, hw, hg, ha, k1, k2, k3, hb, chg55, k5, S]
  · right
    have h0 : ¬ (s : Int) < (a.items.length : Int) := by omega
    rw [List.take_of_length_le hge] at hc
    simp [↓ev_loop, ev, evOps, evOp, wants, req, reqCall, inOf, evOpd, ofConst, ofCell, hands, Ann.mem, Env.get, Env.set, gives, handT, Op.operands, Call.operands, meet, putD, params, AV.strip, keepAt, lookN, Env.keep, binAV, intBinAV, headId, tidy, flagOp, nilConst, List.filterMap_cons, List.filterMap_nil, outOf, resAll, resOf, reifyR, reify, reifyP, clo, cloL, cloLL, cloEnv, loadBox, storeBox, okPut, buildElems, buildCells, int_beq, int_bne, h0, ha, S, ← hc]

theorem lp33_0 (acts : List Act) (n k : Int) (p : Nat) (it : Item) (bs : List Nat) (H : List AO) (c0 : Code) (hc0 : (loops (Try.f33.body.getD .skip))[0]? = some c0) (c1 : Code) (hc1 : (loops (Try.f33.body.getD .skip))[1]? = some c1) (hp : p < H.length) (hl : acts.length ≤ 10000) (hl2 : ∀ a ∈ acts, a.items.length ≤ 10000) :
    ∃ x e' H', lev Try.prog an33 (callD X) c0 bs ((fun s : Nat × Item => [(0, S cAct acts), (1, I n), (2, I k), (8, .ptr p 0), (9, .ptr H.length 0), (10, I s.1)]) ((0, it))) ((fun s : Nat × Item => H ++ [.box (cItem s.2)]) ((0, it))) = some (x, e', H') ∧ (H' = H ++ [.box (cItem ((items acts).foldl (stepC n k) it))] ∧ x = .exit 0 ∧ e'.get 8 = .ptr p 0 ∧ e'.get 9 = .ptr H.length 0) := by
  have hc1' := hc1
  simp only [Try.f33, loops, List.cons_append, List.nil_append, List.append_nil, List.getElem?_cons_zero, List.getElem?_cons_succ, Option.getD_some, Option.some.injEq] at hc0
  simp only [Try.f33, loops, List.cons_append, List.nil_append, List.append_nil, List.getElem?_cons_zero, List.getElem?_cons_succ, Option.getD_some, Option.some.injEq] at hc1
  refine lev_inv (σ := Nat × Item) (fun s => [(0, S cAct acts), (1, I n), (2, I k), (8, .ptr p 0), (9, .ptr H.length 0), (10, I s.1)]) (fun s => H ++ [.box (cItem s.2)]) (fun s => s.1 ≤ acts.length ∧ s.2 = (items (acts.take s.1)).foldl (stepC n k) it) (fun s => acts.length - s.1) (fun x e' H' => H' = H ++ [.box (cItem ((items acts).foldl (stepC n k) it))] ∧ x = .exit 0 ∧ e'.get 8 = .ptr p 0 ∧ e'.get 9 = .ptr H.length 0) ((0, it)) ?_ ?_ ?_ ?_ ?_
  · exact ⟨Nat.zero_le _, rfl⟩
  · intro s hs; simp
  · intro s hs; simp [cloEnv, clo, S]; omega
  · intro s hs; subst hc0; simp [keepAt, headId, lookN, Env.keep, Env.get]
  intro s hs
  subst hc0
  (try rw [hc1])
  obtain ⟨s, cur⟩ := s
  obtain ⟨hs, hc⟩ := hs
  simp only at hs hc ⊢
  rcases Nat.lt_or_ge s acts.length with hlt | hge
  · left
    have h0 : (s : Int) < (acts.length : Int) := by omega
    have hw := wrap_s s (by omega)
    have hg : acts[s]? = some acts[s] := by simp [hlt]
    have hc2 : (items (acts.take (s + 1))).foldl (stepC n k) it = acts[s].items.foldl (stepC n k) cur := by
      rw [take_s _ s hlt, items, List.flatMap_append, List.foldl_append, ← items, ← hc]; simp
    refine ⟨(s + 1, acts[s].items.foldl (stepC n k) cur), ?_, ⟨hlt, hc2.symm⟩, by simp only; omega⟩
    clear hc2
    have hla := hl2 _ (List.getElem_mem hlt)
    generalize acts[s] = g at hg hla
    obtain ⟨x, e', H', h1, rfl, rfl, g0, g1, g2, g8, g9, g10⟩ := lp33_1 acts g n k p s cur ((H ++ [AO.box (cItem cur)]).length :: bs) H c1 hc1' hg hp hla
    simp only [S, List.map_nil, Int.ofNat_eq_natCast, Int.natCast_zero, List.length_append, List.length_cons, List.length_nil, Nat.zero_add, Nat.reduceAdd] at h1
    simp [↓ev_loop, ev, evOps, evOp, wants, req, reqCall, inOf, evOpd, ofConst, ofCell, hands, Ann.mem, Env.get, Env.set, gives, handT, Op.operands, Call.operands, meet, putD, params, AV.strip, keepAt, lookN, Env.keep, binAV, intBinAV, headId, tidy, flagOp, nilConst, List.filterMap_cons, List.filterMap_nil, outOf, resAll, resOf, reifyR, reify, reifyP, clo, cloL, cloLL, cloEnv, loadBox, storeBox, okPut, buildElems, buildCells, int_beq, int_bne, h0, hw, h1, g0, g1, g2, g8, g9, g10, S]
  · right
    have h0 : ¬ (s : Int) < (acts.length : Int) := by omega
    rw [List.take_of_length_le hge] at hc
    simp [↓ev_loop, ev, evOps, evOp, wants, req, reqCall, inOf, evOpd, ofConst, ofCell, hands, Ann.mem, Env.get, Env.set, gives, handT, Op.operands, Call.operands, meet, putD, params, AV.strip, keepAt, lookN, Env.keep, binAV, intBinAV, headId, tidy, flagOp, nilConst, List.filterMap_cons, List.filterMap_nil, outOf, resAll, resOf, reifyR, reify, reifyP, clo, cloL, cloLL, cloEnv, loadBox, storeBox, okPut, buildElems, buildCells, int_beq, int_bne, h0, S, ← hc]
theorem fix33 (acts : List Act) (n k : Int) (it : Item) (hl : acts.length ≤ 10000) (hl2 : ∀ a ∈ acts, a.items.length ≤ 10000) (bs : List Nat) (H : List AO) :
    callD X 33 [S cAct acts, I n, I k, .agg (cItem it)] bs H = some (.agg (cItem (fixI acts n k it)), H) := by
  rw [callD_eq]
  simp only [Xprim]
  unfold runBody
  simp only [XP, Try.func33, Xan33, Xok33]
  obtain ⟨c0, hc0⟩ : ∃ c, (loops (Try.f33.body.getD .skip))[0]? = some c := ⟨_, rfl⟩
  obtain ⟨c1, hc1⟩ : ∃ c, (loops (Try.f33.body.getD .skip))[1]? = some c := ⟨_, rfl⟩
  have hd0 := hc0
  simp only [Try.f33, loops, List.cons_append, List.nil_append, List.append_nil, List.getElem?_cons_zero, List.getElem?_cons_succ, Option.getD_some, Option.some.injEq] at hd0
  have hd1 := hc1
  simp only [Try.f33, loops, List.cons_append, List.nil_append, List.append_nil, List.getElem?_cons_zero, List.getElem?_cons_succ, Option.getD_some, Option.some.injEq] at hd1
  simp only [Try.f33]
  (try rw [hd0])
  (try rw [hd1])
  unfold fixI
  by_cases k1 : 0 ≤ it.kind ∧ it.kind ≤ 6
  · obtain ⟨x, e', H', h1, rfl, rfl, g8, g9⟩ := lp33_0 acts n k (H.length + 1) it (H.length :: bs) (H ++ [.box (cItem it), .box (cItem zItem)]) c0 hc0 c1 hc1 (by simp) hl hl2
    simp only [S, List.map_nil, Int.ofNat_eq_natCast, Int.natCast_zero, List.length_append, List.length_cons, List.length_nil, Nat.zero_add, Nat.reduceAdd] at h1
    simp only [List.append_assoc, List.cons_append, List.nil_append] at h1 g8 g9
    simp [↓ev_loop, ev, evOps, evOp, wants, req, reqCall, inOf, evOpd, ofConst, ofCell, hands, Ann.mem, Env.get, Env.set, gives, handT, Op.operands, Call.operands, meet, putD, params, AV.strip, keepAt, lookN, Env.keep, binAV, intBinAV, headId, tidy, flagOp, nilConst, List.filterMap_cons, List.filterMap_nil, outOf, resAll, resOf, reifyR, reify, reifyP, clo, cloL, cloLL, cloEnv, loadBox, storeBox, okPut, buildElems, buildCells, int_beq, int_bne, chg55, k1, h1, g8, g9, S]
  · simp [↓ev_loop, ev, evOps, evOp, wants, req, reqCall, inOf, evOpd, ofConst, ofCell, hands, Ann.mem, Env.get, Env.set, gives, handT, Op.operands, Call.operands, meet, putD, params, AV.strip, keepAt, lookN, Env.keep, binAV, intBinAV, headId, tidy, flagOp, nilConst, List.filterMap_cons, List.filterMap_nil, outOf, resAll, resOf, reifyR, reify, reifyP, clo, cloL, cloLL, cloEnv, loadBox, storeBox, okPut, buildElems, buildCells, int_beq, int_bne, chg55, k1, S]
end Go.Proofs.Ytlpilgnjlnepeaa.T
namespace Go.Proofs.Ytlpilgnjlnepeaa.T
open Go.VM Go.Proofs
set_option linter.unusedSimpArgs false
set_option maxHeartbeats 16000000
set_option maxRecDepth 10000

theorem get_q {H : List AO} {q : Nat} (hq : q < H.length) (M : AO) (r : List AO) : (H.set q M ++ r)[q]? = some M := by
  rw [List.getElem?_append_left (by simpa using hq)]; simp [hq]
theorem get_q0 {H : List AO} {q : Nat} (hq : q < H.length) (M : AO) : (H.set q M)[q]? = some M := by simp [hq]
theorem set_q {H : List AO} {q : Nat} (hq : q < H.length) (M M' : AO) (r : List AO) : (H.set q M ++ r).set q M' = H.set q M' ++ r := by
  rw [List.set_append_left _ _ (by simpa using hq)]; simp
theorem get_r {H : List AO} {q : Nat} (hq : q < H.length) (M : AO) (r : List AO) : (H.set q M ++ r)[H.length]? = r[0]? := by
  rw [List.getElem?_append_right (by simp)]; simp
theorem set_r {H : List AO} {q : Nat} (hq : q < H.length) (M M' : AO) (r : List AO) : (H.set q M ++ r).set H.length M' = H.set q M ++ r.set 0 M' := by
  rw [List.set_append_right _ _ (by simp)]; simp
theorem take_q {H : List AO} {q : Nat} (M : AO) (r : List AO) : (H.set q M ++ r).take H.length = H.set q M := by
  rw [List.take_append_of_le_length (by simp), List.take_of_length_le (by simp)]
theorem take_qk {H : List AO} {q : Nat} (M : AO) (r : List AO) (k : Nat) : (H.set q M ++ r).take (H.length + k) = H.set q M ++ r.take k := by
  rw [List.take_append, List.take_of_length_le (by simp)]; simp
theorem take_q0 {H : List AO} {q : Nat} (M : AO) : (H.set q M).take H.length = H.set q M := List.take_of_length_le (by simp)
@[simp high] theorem build77 (a b : Int) : buildCells Try.prog 77 [(0, I a), (1, I b)] [.int .i64 0, .int .i64 0] = some [I a, I b] := by
  simp [buildCells, splice]
/-! the map of corrections -/
abbrev Corr := List ((Int × Int) × Item)
def kk (k : Int × Int) : AV := .agg [I k.1, I k.2]
def ks (m : Corr) : List AV := m.map fun e => kk e.1
def vs (m : Corr) : List AV := m.map fun e => AV.agg (cItem e.2)
def aput (k : Int × Int) (v : Item) : Corr → Corr
  | [] => [(k, v)]
  | (k', v') :: r => if k = k' then (k, v) :: r else (k', v') :: aput k v r
def aget (k : Int × Int) : Corr → Option Item
  | [] => none
  | (k', v') :: r => if k = k' then some v' else aget k r
def afind (k : Int × Int) : Corr → Option Nat
  | [] => none
  | (k', _) :: r => if k = k' then some 0 else (afind k r).map (· + 1)
theorem eqvkk (a b : Int × Int) : eqAV Try.prog 77 (kk a) (kk b) = some (decide (a = b)) := by
  obtain ⟨a, a'⟩ := a; obtain ⟨b, b'⟩ := b
  by_cases h : a = b <;> by_cases h' : a' = b' <;> simp [eqAV, eqCells, eqCell, kk, h, h', int_beq]
theorem find_kk (k : Int × Int) (m : Corr) : ∀ n, findAV Try.prog 77 (kk k) (ks m) n = some ((afind k m).map (n + ·)) := by
  induction m with
  | nil => intro n; rfl
  | cons e r ih =>
    intro n
    obtain ⟨k', v⟩ := e
    have := ih (n + 1)
    by_cases h : k = k'
    · simp [findAV, ks, eqvkk, afind, h]
    · simp only [ks, List.map_cons, findAV, eqvkk, h, decide_false, afind, if_false]
      rw [show List.map (fun e => kk e.1) r = ks r from rfl, this]
      cases afind k r <;> simp; omega
theorem put_some (k : Int × Int) (v : Item) (m : Corr) : ∀ i, afind k m = some i → (ks m).set i (kk k) = ks (aput k v m) ∧ (vs m).set i (.agg (cItem v)) = vs (aput k v m) := by
  induction m with
  | nil => intro i h; cases h
  | cons e r ih =>
    intro i h
    obtain ⟨k', w⟩ := e
    by_cases hk : k = k'
    · simp only [afind, hk, if_true, Option.some.injEq] at h
      subst h; subst hk
      simp [ks, vs, aput]
    · simp only [afind, hk, if_false] at h
      cases hf : afind k r with
      | none => rw [hf] at h; cases h
      | some j =>
        rw [hf] at h
        simp only [Option.map_some, Option.some.injEq] at h
        subst h
        obtain ⟨h1, h2⟩ := ih j hf
        simp only [ks, vs] at h1 h2
        simp [ks, vs, aput, hk, h1, h2]
theorem put_none (k : Int × Int) (v : Item) (m : Corr) (h : afind k m = none) : ks m ++ [kk k] = ks (aput k v m) ∧ vs m ++ [.agg (cItem v)] = vs (aput k v m) := by
  induction m with
  | nil => simp [ks, vs, aput]
  | cons e r ih =>
    obtain ⟨k', w⟩ := e
    by_cases hk : k = k'
    · simp [afind, hk] at h
    · simp only [afind, hk, if_false, Option.map_eq_none_iff] at h
      obtain ⟨h1, h2⟩ := ih h
      simp only [ks, vs] at h1 h2
      simp [ks, vs, aput, hk, h1, h2]
theorem upd_kk (k : Int × Int) (v : Item) (m : Corr) : updMap Try.prog 77 (kk k) (.agg (cItem v)) (.map (ks m) (vs m)) = some (.poison, .map (ks (aput k v m)) (vs (aput k v m))) := by
  simp only [updMap, keyOk, eqvkk, Bool.not_true, Bool.false_eq_true, if_false, find_kk]
  cases h : afind k m with
  | none => simp [put_none k v m h]
  | some i => simp [put_some k v m i h]
theorem get_find (k : Int × Int) (m : Corr) : (match afind k m with | some i => (vs m)[i]? | none => none) = (aget k m).map fun v => AV.agg (cItem v) := by
  induction m with
  | nil => rfl
  | cons e r ih =>
    obtain ⟨k', w⟩ := e
    by_cases hk : k = k'
    · simp [afind, aget, hk, vs]
    · simp only [afind, aget, hk, if_false]
      rw [← ih]
      cases afind k r <;> simp [vs]
theorem look_kk (k : Int × Int) (m : Corr) : lookAV Try.prog 77 42 (kk k) true (ks m) (vs m) = some (.tup [.agg (cItem ((aget k m).getD zItem)), .bool (aget k m).isSome]) := by
  have h := get_find k m
  simp only [lookAV, keyOk, eqvkk, Bool.not_true, Bool.false_eq_true, if_false, find_kk]
  cases hf : afind k m with
  | none =>
    rw [hf] at h
    cases hg : aget k m with
    | none => simp
    | some v => rw [hg] at h; cases h
  | some i =>
    rw [hf] at h
    simp only [Option.map_some, Nat.zero_add]
    simp only at h
    rw [h]
    cases hg : aget k m with
    | none =>
      exfalso
      rw [hg] at h
      have : ∀ (m : Corr) i, afind k m = some i → aget k m ≠ none := by
        intro m
        induction m with
        | nil => intro i h; cases h
        | cons e r ih =>
          intro i h
          obtain ⟨k', w⟩ := e
          by_cases hk : k = k'
          · simp [aget, hk]
          · simp only [afind, hk, if_false] at h
            cases h2 : afind k r with
            | none => rw [h2] at h; cases h
            | some j => simpa [aget, hk] using ih j h2
      exact this m i hf hg
    | some v => simp
theorem aget_aput (k k' : Int × Int) (v : Item) (m : Corr) : aget k (aput k' v m) = if k = k' then some v else aget k m := by
  induction m with
  | nil => by_cases h : k = k' <;> simp [aput, aget, h]
  | cons e r ih =>
    obtain ⟨k2, w⟩ := e
    by_cases h : k' = k2
    · subst h
      by_cases h2 : k = k' <;> simp [aput, aget, h2]
    · by_cases h2 : k = k2
      · subst h2
        simp [aput, aget, h, Ne.symm h]
      · simp [aput, aget, h, h2, ih]
def stepM (m : Corr) (x : Item) : Corr :=
  if x.kind = 11 then (match x.by_ with | b :: _ => if 0 ≤ b.kind ∧ b.kind ≤ 6 then aput (x.act, x.item) b m else m | [] => m) else m
theorem step_MC (n k : Int) (m : Corr) (x it : Item) : (aget (n, k) (stepM m x)).getD it = stepC n k ((aget (n, k) m).getD it) x := by
  unfold stepM stepC isC
  by_cases h1 : x.kind = 11
  · cases hb : x.by_ with
    | nil => simp [h1]
    | cons b r =>
      by_cases h2 : 0 ≤ b.kind ∧ b.kind ≤ 6
      · simp only [h1, h2, and_self, if_true, aget_aput, Prod.mk.injEq]
        by_cases h3 : n = x.act ∧ k = x.item
        · obtain ⟨rfl, rfl⟩ := h3; simp
        · have h4 : ¬ (True ∧ x.act = n ∧ x.item = k) := fun h => h3 ⟨h.2.1.symm, h.2.2.symm⟩
          simp only [h3, if_false, if_neg h4, Option.getD_none]
      · simp [h1, h2]
  · simp [h1]
theorem fold_MC (n k : Int) (it : Item) (xs : List Item) : ∀ m, (aget (n, k) (xs.foldl stepM m)).getD it = xs.foldl (stepC n k) ((aget (n, k) m).getD it) := by
  induction xs with
  | nil => intro m; rfl
  | cons x xs ih => intro m; simp only [List.foldl_cons, ih, step_MC]

theorem lp30_1 (acts : List Act) (its : List Item) (i q : Nat) (m : Corr) (bs : List Nat) (H : List AO) (c1 : Code) (hc1 : (loops (Try.f30.body.getD .skip))[1]? = some c1) (hl : its.length ≤ 10000) (hq : q < H.length) :
    ∃ x e' H', lev Try.prog an30 (callD X) c1 bs ((fun s : Nat × Corr => [(3, .map q), (9, S cAct acts), (10, I acts.length), (11, I i), (16, S cItem its), (17, I its.length), (18, I s.1)]) ((0, m))) ((fun s : Nat × Corr => H.set q (.map (ks s.2) (vs s.2))) ((0, m))) = some (x, e', H') ∧ (H' = H.set q (.map (ks (its.foldl stepM m)) (vs (its.foldl stepM m))) ∧ x = .exit 2 ∧ e'.get 3 = .map q ∧ e'.get 9 = S cAct acts ∧ e'.get 10 = I acts.length ∧ e'.get 11 = I i) := by
  simp only [Try.f30, loops, List.cons_append, List.nil_append, List.append_nil, List.getElem?_cons_zero, List.getElem?_cons_succ, Option.getD_some, Option.some.injEq] at hc1
  refine lev_inv (σ := Nat × Corr) (fun s => [(3, .map q), (9, S cAct acts), (10, I acts.length), (11, I i), (16, S cItem its), (17, I its.length), (18, I s.1)]) (fun s => H.set q (.map (ks s.2) (vs s.2))) (fun s => s.1 ≤ its.length ∧ s.2 = (its.take s.1).foldl stepM m) (fun s => its.length - s.1) (fun x e' H' => H' = H.set q (.map (ks (its.foldl stepM m)) (vs (its.foldl stepM m))) ∧ x = .exit 2 ∧ e'.get 3 = .map q ∧ e'.get 9 = S cAct acts ∧ e'.get 10 = I acts.length ∧ e'.get 11 = I i) ((0, m)) ?_ ?_ ?_ ?_ ?_
  · exact ⟨Nat.zero_le _, rfl⟩
  · intro s hs; simp
  · intro s hs; simp [cloEnv, clo, S, hq]
  · intro s hs; subst hc1; simp [keepAt, headId, lookN, Env.keep, Env.get]
  intro s hs
  subst hc1
  obtain ⟨s, cur⟩ := s
  obtain ⟨hs, hc⟩ := hs
  simp only at hs hc ⊢
  have n1 : (H.length == q) = false := by simp; omega
  have n2 : (q == H.length) = false := by simp; omega
  rcases Nat.lt_or_ge s its.length with hlt | hge
  · left
    have h0 : (s : Int) < (its.length : Int) := by omega
    have hw := wrap_s s (by omega)
    have hg : its[s]? = some its[s] := by simp [hlt]
    have hc2 : (its.take (s + 1)).foldl stepM m = stepM cur its[s] := by rw [take_s _ s hlt, List.foldl_append, ← hc]; rfl
    refine ⟨(s + 1, stepM cur its[s]), ?_, ⟨hlt, hc2.symm⟩, by simp only; omega⟩
    clear hc2
    generalize its[s] = g at hg
    unfold stepM
    by_cases k1 : g.kind = 11
    rotate_left
    · simp [↓ev_loop, ev, evOps, evOp, wants, req, reqCall, inOf, evOpd, ofConst, ofCell, hands, Ann.mem, Env.get, Env.set, gives, handT, Op.operands, Call.operands, meet, putD, params, AV.strip, keepAt, lookN, Env.keep, binAV, intBinAV, headId, tidy, flagOp, nilConst, List.filterMap_cons, List.filterMap_nil, outOf, resAll, resOf, reifyR, reify, reifyP, clo, cloL, cloLL, cloEnv, loadBox, storeBox, okPut, buildElems, buildCells, int_beq, int_bne, h0, hw, hg, k1, S, get_q hq, get_r hq, set_r hq, take_q, take_qk]
    cases hb : g.by_ with
    | nil => simp [↓ev_loop, ev, evOps, evOp, wants, req, reqCall, inOf, evOpd, ofConst, ofCell, hands, Ann.mem, Env.get, Env.set, gives, handT, Op.operands, Call.operands, meet, putD, params, AV.strip, keepAt, lookN, Env.keep, binAV, intBinAV, headId, tidy, flagOp, nilConst, List.filterMap_cons, List.filterMap_nil, outOf, resAll, resOf, reifyR, reify, reifyP, clo, cloL, cloLL, cloEnv, loadBox, storeBox, okPut, buildElems, buildCells, int_beq, int_bne, h0, hw, hg, k1, hb, S, get_q hq, get_r hq, set_r hq, take_q, take_qk]
    | cons b r =>
      have hu := upd_kk (g.act, g.item) b cur
      simp only [kk] at hu
      by_cases k5 : 0 ≤ b.kind ∧ b.kind ≤ 6
      · simp [↓ev_loop, ev, evOps, evOp, wants, req, reqCall, inOf, evOpd, ofConst, ofCell, hands, Ann.mem, Env.get, Env.set, gives, handT, Op.operands, Call.operands, meet, putD, params, AV.strip, keepAt, lookN, Env.keep, binAV, intBinAV, headId, tidy, flagOp, nilConst, List.filterMap_cons, List.filterMap_nil, outOf, resAll, resOf, reifyR, reify, reifyP, clo, cloL, cloLL, cloEnv, loadBox, storeBox, okPut, buildElems, buildCells, int_beq, int_bne, evDraw, evOpsD, evOpD, meetD, numbered, newsOf, newsIn, footsOk, apartF, clash, prec, Region.binds, h0, hw, hg, k1, hb, chg32, k5, S, hu, get_q hq, get_q0 hq, set_q hq, get_r hq, set_r hq, take_q, take_qk, n1, n2]
      · simp [↓ev_loop, ev, evOps, evOp, wants, req, reqCall, inOf, evOpd, ofConst, ofCell, hands, Ann.mem, Env.get, Env.set, gives, handT, Op.operands, Call.operands, meet, putD, params, AV.strip, keepAt, lookN, Env.keep, binAV, intBinAV, headId, tidy, flagOp, nilConst, List.filterMap_cons, List.filterMap_nil, outOf, resAll, resOf, reifyR, reify, reifyP, clo, cloL, cloLL, cloEnv, loadBox, storeBox, okPut, buildElems, buildCells, int_beq, int_bne, h0, hw, hg, k1, hb, chg32, k5, S, get_q hq, get_r hq, set_r hq, take_q, take_qk]
  · right
    have h0 : ¬ (s : Int) < (its.length : Int) := by omega
    rw [List.take_of_length_le hge] at hc
    simp [↓ev_loop, ev, evOps, evOp, wants, req, reqCall, inOf, evOpd, ofConst, ofCell, hands, Ann.mem, Env.get, Env.set, gives, handT, Op.operands, Call.operands, meet, putD, params, AV.strip, keepAt, lookN, Env.keep, binAV, intBinAV, headId, tidy, flagOp, nilConst, List.filterMap_cons, List.filterMap_nil, outOf, resAll, resOf, reifyR, reify, reifyP, clo, cloL, cloLL, cloEnv, loadBox, storeBox, okPut, buildElems, buildCells, int_beq, int_bne, h0, S, ← hc]

theorem lp30_0 (acts : List Act) (bs : List Nat) (H : List AO) (c0 : Code) (hc0 : (loops (Try.f30.body.getD .skip))[0]? = some c0) (c1 : Code) (hc1 : (loops (Try.f30.body.getD .skip))[1]? = some c1) (hl : acts.length ≤ 10000) (hl2 : ∀ a ∈ acts, a.items.length ≤ 10000) :
    ∃ x e' H', lev Try.prog an30 (callD X) c0 bs ((fun s : Nat × Corr => [(3, .map H.length), (9, S cAct acts), (10, I acts.length), (11, I s.1)]) ((0, []))) ((fun s : Nat × Corr => H ++ [.map (ks s.2) (vs s.2)]) ((0, []))) = some (x, e', H') ∧ (H' = H ++ [.map (ks ((items acts).foldl stepM [])) (vs ((items acts).foldl stepM []))] ∧ x = .exit 0 ∧ e'.get 3 = .map H.length) := by
  have hc1' := hc1
  simp only [Try.f30, loops, List.cons_append, List.nil_append, List.append_nil, List.getElem?_cons_zero, List.getElem?_cons_succ, Option.getD_some, Option.some.injEq] at hc0
  simp only [Try.f30, loops, List.cons_append, List.nil_append, List.append_nil, List.getElem?_cons_zero, List.getElem?_cons_succ, Option.getD_some, Option.some.injEq] at hc1
  refine lev_inv (σ := Nat × Corr) (fun s => [(3, .map H.length), (9, S cAct acts), (10, I acts.length), (11, I s.1)]) (fun s => H ++ [.map (ks s.2) (vs s.2)]) (fun s => s.1 ≤ acts.length ∧ s.2 = (items (acts.take s.1)).foldl stepM []) (fun s => acts.length - s.1) (fun x e' H' => H' = H ++ [.map (ks ((items acts).foldl stepM [])) (vs ((items acts).foldl stepM []))] ∧ x = .exit 0 ∧ e'.get 3 = .map H.length) ((0, [])) ?_ ?_ ?_ ?_ ?_
  · exact ⟨Nat.zero_le _, rfl⟩
  · intro s hs; simp
  · intro s hs; simp [cloEnv, clo, S]
  · intro s hs; subst hc0; simp [keepAt, headId, lookN, Env.keep, Env.get]
  intro s hs
  subst hc0
  (try rw [hc1])
  obtain ⟨s, cur⟩ := s
  obtain ⟨hs, hc⟩ := hs
  simp only at hs hc ⊢
  rcases Nat.lt_or_ge s acts.length with hlt | hge
  · left
    have h0 : (s : Int) < (acts.length : Int) := by omega
    have hw := wrap_s s (by omega)
    have hg : acts[s]? = some acts[s] := by simp [hlt]
    have hc2 : (items (acts.take (s + 1))).foldl stepM [] = acts[s].items.foldl stepM cur := by
      rw [take_s _ s hlt, items, List.flatMap_append, List.foldl_append, ← items, ← hc]; simp
    refine ⟨(s + 1, acts[s].items.foldl stepM cur), ?_, ⟨hlt, hc2.symm⟩, by simp only; omega⟩
    clear hc2
    have hla := hl2 _ (List.getElem_mem hlt)
    generalize acts[s] = g at hg hla
    obtain ⟨x, e', H', h1, rfl, rfl, g3, g9, g10, g11⟩ := lp30_1 acts g.items s H.length cur ((H.length + 1) :: bs) (H ++ [.map (ks cur) (vs cur), .box (cAct g)]) c1 hc1' hla (by simp)
    simp only [S, List.map_nil, Int.ofNat_eq_natCast, Int.natCast_zero, List.length_append, List.length_cons, List.length_nil, Nat.zero_add, Nat.reduceAdd] at h1
    simp at h1
    simp [↓ev_loop, ev, evOps, evOp, wants, req, reqCall, inOf, evOpd, ofConst, ofCell, hands, Ann.mem, Env.get, Env.set, gives, handT, Op.operands, Call.operands, meet, putD, params, AV.strip, keepAt, lookN, Env.keep, binAV, intBinAV, headId, tidy, flagOp, nilConst, List.filterMap_cons, List.filterMap_nil, outOf, resAll, resOf, reifyR, reify, reifyP, clo, cloL, cloLL, cloEnv, loadBox, storeBox, okPut, buildElems, buildCells, int_beq, int_bne, h0, hw, hg, h1, g3, g9, g10, g11, S]
  · right
    have h0 : ¬ (s : Int) < (acts.length : Int) := by omega
    rw [List.take_of_length_le hge] at hc
    simp [↓ev_loop, ev, evOps, evOp, wants, req, reqCall, inOf, evOpd, ofConst, ofCell, hands, Ann.mem, Env.get, Env.set, gives, handT, Op.operands, Call.operands, meet, putD, params, AV.strip, keepAt, lookN, Env.keep, binAV, intBinAV, headId, tidy, flagOp, nilConst, List.filterMap_cons, List.filterMap_nil, outOf, resAll, resOf, reifyR, reify, reifyP, clo, cloL, cloLL, cloEnv, loadBox, storeBox, okPut, buildElems, buildCells, int_beq, int_bne, h0, S, ← hc]
def corrMap (acts : List Act) : Corr := (items acts).foldl stepM []
theorem corr30 (acts : List Act) (hl : acts.length ≤ 10000) (hl2 : ∀ a ∈ acts, a.items.length ≤ 10000) (bs : List Nat) (H : List AO) :
    callD X 30 [S cAct acts] bs H = some (.vmap (ks (corrMap acts)) (vs (corrMap acts)), H) := by
  rw [callD_eq]
  simp only [Xprim]
  unfold runBody
  simp only [XP, Try.func30, Xan30, Xok30]
  obtain ⟨c0, hc0⟩ : ∃ c, (loops (Try.f30.body.getD .skip))[0]? = some c := ⟨_, rfl⟩
  obtain ⟨c1, hc1⟩ : ∃ c, (loops (Try.f30.body.getD .skip))[1]? = some c := ⟨_, rfl⟩
  have hd0 := hc0
  simp only [Try.f30, loops, List.cons_append, List.nil_append, List.append_nil, List.getElem?_cons_zero, List.getElem?_cons_succ, Option.getD_some, Option.some.injEq] at hd0
  have hd1 := hc1
  simp only [Try.f30, loops, List.cons_append, List.nil_append, List.append_nil, List.getElem?_cons_zero, List.getElem?_cons_succ, Option.getD_some, Option.some.injEq] at hd1
  simp only [Try.f30]
  (try rw [hd0])
  (try rw [hd1])
  obtain ⟨x, e', H', h1, rfl, rfl, g3⟩ := lp30_0 acts (H.length :: bs) H c0 hc0 c1 hc1 hl hl2
  simp only [S, List.map_nil, Int.ofNat_eq_natCast, Int.natCast_zero, List.length_append, List.length_cons, List.length_nil, Nat.zero_add, Nat.reduceAdd] at h1
  have h2 : ks ((items acts).foldl stepM []) = ks (corrMap acts) := rfl
  have h3 : vs ((items acts).foldl stepM []) = vs (corrMap acts) := rfl
  simp only [show ks ([] : Corr) = [] from rfl, show vs ([] : Corr) = [] from rfl, h2, h3] at h1
  have hcl : ∀ p, cloL p (ks (corrMap acts)) = true ∧ cloL p (vs (corrMap acts)) = true := by
    intro p
    generalize corrMap acts = m
    constructor
    · induction m with
      | nil => rfl
      | cons e r ih => simp only [ks, List.map_cons, cloL, kk, clo, Bool.true_and, Bool.and_true] at ih ⊢; exact ih
    · induction m with
      | nil => rfl
      | cons e r ih => simp only [vs, List.map_cons, cloL, clo, g_cItem]; simpa [vs] using ih
  simp [↓ev_loop, ev, evOps, evOp, wants, req, reqCall, inOf, evOpd, ofConst, ofCell, hands, Ann.mem, Env.get, Env.set, gives, handT, Op.operands, Call.operands, meet, putD, params, AV.strip, keepAt, lookN, Env.keep, binAV, intBinAV, headId, tidy, flagOp, nilConst, List.filterMap_cons, List.filterMap_nil, outOf, resAll, resOf, reifyR, reify, reifyP, clo, cloL, cloLL, cloEnv, loadBox, storeBox, okPut, buildElems, buildCells, int_beq, int_bne, h1, g3, S, hcl]
end Go.Proofs.Ytlpilgnjlnepeaa.T
namespace Go.Proofs.Ytlpilgnjlnepeaa.T
open Go.VM Go.Proofs
set_option linter.unusedSimpArgs false
set_option maxHeartbeats 16000000
set_option maxRecDepth 10000

theorem apartF_ro (b : Nat) (f g : Foot) (hf : (f.all fun y => !y.2) = true) (hg : (g.all fun y => !y.2) = true) : apartF b f g = true := by
  simp only [apartF, List.all_eq_true] at *
  intro x hx y hy
  have h1 := hf x hx
  have h2 := hg y hy
  simp only [Bool.not_eq_true'] at h1 h2
  simp [clash, h1, h2]
/-- Operations that write nothing may stand in any order. -/
@[simp high] theorem footsOk_ro (ops : Array Oper) (b : Nat) (fs : List (Nat × Foot)) (h : (fs.all fun x => x.2.all fun y => !y.2) = true) : footsOk ops b fs = true := by
  induction fs with
  | nil => rfl
  | cons x r ih =>
    obtain ⟨i, f⟩ := x
    simp only [List.all_cons, Bool.and_eq_true] at h
    simp only [footsOk, Bool.and_eq_true, List.all_eq_true, Bool.or_eq_true]
    refine ⟨fun y hy => .inl (apartF_ro b _ _ h.1 ?_), ih h.2⟩
    exact List.all_eq_true.1 h.2 y hy
def fxE (acts : List Act) (d : EI) : EI := ⟨d.act, d.item, d.day, fixI acts d.act d.item d.it⟩
def deedsOf (acts : List Act) : List EI := acts.flatMap fun a => (eItems a).map (fxE acts)
theorem fxE_eq (acts : List Act) (d : EI) : fxE acts d = ⟨d.act, d.item, d.day, if 0 ≤ d.it.kind ∧ d.it.kind ≤ 6 then (aget (d.act, d.item) (corrMap acts)).getD d.it else d.it⟩ := by
  unfold fxE fixI corrMap
  rw [fold_MC]; rfl

theorem clk (p : Nat → Bool) (m : Corr) : cloL p (ks m) = true := by
  induction m with
  | nil => rfl
  | cons e r ih => simp only [ks, List.map_cons, cloL, kk, clo, Bool.true_and, Bool.and_true] at ih ⊢; exact ih
theorem clv (p : Nat → Bool) (m : Corr) : cloL p (vs m) = true := by
  induction m with
  | nil => rfl
  | cons e r ih => simp only [vs, List.map_cons, cloL, clo, g_cItem]; simpa [vs] using ih

theorem lp13_1 (acts acts' : List Act) (es acc0 : List EI) (i : Nat) (bs : List Nat) (H : List AO) (c1 : Code) (hc1 : (loops (Try.f13.body.getD .skip))[1]? = some c1) (hl : acc0.length + es.length ≤ 10000) :
    ∃ x e' H', lev Try.prog an13 (callD X) c1 bs ((fun s : Nat × List EI => [(3, .slc true (s.2.map cEI)), (5, .vmap (ks (corrMap acts)) (vs (corrMap acts))), (16, S cAct acts'), (17, I acts'.length), (18, I i), (23, .slc true (es.map cEI)), (24, I es.length), (25, I s.1)]) ((0, acc0))) ((fun s : Nat × List EI => H) ((0, acc0))) = some (x, e', H') ∧ (H' = H ∧ x = .exit 2 ∧ e'.get 3 = .slc true ((acc0 ++ es.map (fxE acts)).map cEI) ∧ e'.get 5 = .vmap (ks (corrMap acts)) (vs (corrMap acts)) ∧ e'.get 16 = S cAct acts' ∧ e'.get 17 = I acts'.length ∧ e'.get 18 = I i) := by
  simp only [Try.f13, loops, List.cons_append, List.nil_append, List.append_nil, List.getElem?_cons_zero, List.getElem?_cons_succ, Option.getD_some, Option.some.injEq] at hc1
  refine lev_inv (σ := Nat × List EI) (fun s => [(3, .slc true (s.2.map cEI)), (5, .vmap (ks (corrMap acts)) (vs (corrMap acts))), (16, S cAct acts'), (17, I acts'.length), (18, I i), (23, .slc true (es.map cEI)), (24, I es.length), (25, I s.1)]) (fun s => H) (fun s => s.1 ≤ es.length ∧ s.2 = acc0 ++ (es.take s.1).map (fxE acts)) (fun s => es.length - s.1) (fun x e' H' => H' = H ∧ x = .exit 2 ∧ e'.get 3 = .slc true ((acc0 ++ es.map (fxE acts)).map cEI) ∧ e'.get 5 = .vmap (ks (corrMap acts)) (vs (corrMap acts)) ∧ e'.get 16 = S cAct acts' ∧ e'.get 17 = I acts'.length ∧ e'.get 18 = I i) ((0, acc0)) ?_ ?_ ?_ ?_ ?_
  · exact ⟨Nat.zero_le _, by simp⟩
  · intro s hs; simp
  · intro s hs; simp [cloEnv, clo, S, clk, clv]
  · intro s hs; subst hc1; simp [keepAt, headId, lookN, Env.keep, Env.get]
  intro s hs
  subst hc1
  obtain ⟨s, acc⟩ := s
  obtain ⟨hs, hc⟩ := hs
  simp only at hs hc ⊢
  rcases Nat.lt_or_ge s es.length with hlt | hge
  · left
    have h0 : (s : Int) < (es.length : Int) := by omega
    have hw := wrap_s s (by omega)
    have hg : es[s]? = some es[s] := by simp [hlt]
    have hln : acc.length + 1 ≤ 10000 := by rw [hc]; simp; omega
    have h5 : (acc.length + 1) * 392 ≤ 140737488355328 := by omega
    have h6 : acc.length + 1 ≤ 140737488355328 := by omega
    have hc2 : acc0 ++ (es.take (s + 1)).map (fxE acts) = acc ++ [fxE acts es[s]] := by
      rw [take_s _ s hlt, hc]; simp only [List.map_append, List.map_cons, List.map_nil, List.append_assoc]
    refine ⟨(s + 1, acc ++ [fxE acts es[s]]), ?_, ⟨hlt, hc2.symm⟩, by simp only; omega⟩
    clear hc2
    generalize es[s] = g at hg
    rw [fxE_eq]
    have hk := look_kk (g.act, g.item) (corrMap acts)
    simp only [kk] at hk
    cases ho : aget (g.act, g.item) (corrMap acts) with
    | none => simp [↓ev_loop, ev, evOps, evOp, wants, req, reqCall, inOf, evOpd, ofConst, ofCell, hands, Ann.mem, Env.get, Env.set, gives, handT, Op.operands, Call.operands, meet, putD, params, AV.strip, keepAt, lookN, Env.keep, binAV, intBinAV, headId, tidy, flagOp, nilConst, List.filterMap_cons, List.filterMap_nil, outOf, resAll, resOf, reifyR, reify, reifyP, clo, cloL, cloLL, cloEnv, loadBox, storeBox, okPut, buildElems, buildCells, int_beq, int_bne, h0, hw, hg, ho, hk, h5, h6, S]
    | some v =>
      by_cases k5 : 0 ≤ g.it.kind ∧ g.it.kind ≤ 6
      · simp [↓ev_loop, ev, evOps, evOp, wants, req, reqCall, inOf, evOpd, ofConst, ofCell, hands, Ann.mem, Env.get, Env.set, gives, handT, Op.operands, Call.operands, meet, putD, params, AV.strip, keepAt, lookN, Env.keep, binAV, intBinAV, headId, tidy, flagOp, nilConst, List.filterMap_cons, List.filterMap_nil, outOf, resAll, resOf, reifyR, reify, reifyP, clo, cloL, cloLL, cloEnv, loadBox, storeBox, okPut, buildElems, buildCells, int_beq, int_bne, h0, hw, hg, ho, hk, h5, h6, chg32, k5, S]
      · simp [↓ev_loop, ev, evOps, evOp, wants, req, reqCall, inOf, evOpd, ofConst, ofCell, hands, Ann.mem, Env.get, Env.set, gives, handT, Op.operands, Call.operands, meet, putD, params, AV.strip, keepAt, lookN, Env.keep, binAV, intBinAV, headId, tidy, flagOp, nilConst, List.filterMap_cons, List.filterMap_nil, outOf, resAll, resOf, reifyR, reify, reifyP, clo, cloL, cloLL, cloEnv, loadBox, storeBox, okPut, buildElems, buildCells, int_beq, int_bne, h0, hw, hg, ho, hk, h5, h6, chg32, k5, S]
  · right
    have h0 : ¬ (s : Int) < (es.length : Int) := by omega
    rw [List.take_of_length_le hge] at hc
    simp [↓ev_loop, ev, evOps, evOp, wants, req, reqCall, inOf, evOpd, ofConst, ofCell, hands, Ann.mem, Env.get, Env.set, gives, handT, Op.operands, Call.operands, meet, putD, params, AV.strip, keepAt, lookN, Env.keep, binAV, intBinAV, headId, tidy, flagOp, nilConst, List.filterMap_cons, List.filterMap_nil, outOf, resAll, resOf, reifyR, reify, reifyP, clo, cloL, cloLL, cloEnv, loadBox, storeBox, okPut, buildElems, buildCells, int_beq, int_bne, h0, S, hc]

theorem lp13_0 (acts : List Act) (bs : List Nat) (H : List AO) (c0 : Code) (hc0 : (loops (Try.f13.body.getD .skip))[0]? = some c0) (c1 : Code) (hc1 : (loops (Try.f13.body.getD .skip))[1]? = some c1) (hl : acts.length ≤ 10000) (hl2 : ∀ a ∈ acts, a.items.length ≤ 10000) (ht : (deedsOf acts).length ≤ 10000) :
    ∃ x e' H', lev Try.prog an13 (callD X) c0 bs ((fun s : Nat × List EI => [(3, .slc true (s.2.map cEI)), (5, .vmap (ks (corrMap acts)) (vs (corrMap acts))), (16, S cAct acts), (17, I acts.length), (18, I s.1)]) ((0, []))) ((fun s : Nat × List EI => H) ((0, []))) = some (x, e', H') ∧ (H' = H ∧ x = .exit 0 ∧ e'.get 3 = .slc true ((deedsOf acts).map cEI)) := by
  have hc1' := hc1
  simp only [Try.f13, loops, List.cons_append, List.nil_append, List.append_nil, List.getElem?_cons_zero, List.getElem?_cons_succ, Option.getD_some, Option.some.injEq] at hc0
  simp only [Try.f13, loops, List.cons_append, List.nil_append, List.append_nil, List.getElem?_cons_zero, List.getElem?_cons_succ, Option.getD_some, Option.some.injEq] at hc1
  refine lev_inv (σ := Nat × List EI) (fun s => [(3, .slc true (s.2.map cEI)), (5, .vmap (ks (corrMap acts)) (vs (corrMap acts))), (16, S cAct acts), (17, I acts.length), (18, I s.1)]) (fun s => H) (fun s => s.1 ≤ acts.length ∧ s.2 = (acts.take s.1).flatMap fun a => (eItems a).map (fxE acts)) (fun s => acts.length - s.1) (fun x e' H' => H' = H ∧ x = .exit 0 ∧ e'.get 3 = .slc true ((deedsOf acts).map cEI)) ((0, [])) ?_ ?_ ?_ ?_ ?_
  · exact ⟨Nat.zero_le _, rfl⟩
  · intro s hs; simp
  · intro s hs; simp [cloEnv, clo, S, clk, clv]
  · intro s hs; subst hc0; simp [keepAt, headId, lookN, Env.keep, Env.get]
  intro s hs
  subst hc0
  (try rw [hc1])
  obtain ⟨s, acc⟩ := s
  obtain ⟨hs, hc⟩ := hs
  simp only at hs hc ⊢
  rcases Nat.lt_or_ge s acts.length with hlt | hge
  · left
    have h0 : (s : Int) < (acts.length : Int) := by omega
    have hw := wrap_s s (by omega)
    have hg : acts[s]? = some acts[s] := by simp [hlt]
    have hc2 : ((acts.take (s + 1)).flatMap fun a => (eItems a).map (fxE acts)) = acc ++ (eItems acts[s]).map (fxE acts) := by
      rw [take_s _ s hlt, hc]; simp only [List.flatMap_append, List.flatMap_cons, List.flatMap_nil, List.append_nil]
    have hle := fm_le (fun a => (eItems a).map (fxE acts)) acts s hlt
    rw [← hc] at hle
    refine ⟨(s + 1, acc ++ (eItems acts[s]).map (fxE acts)), ?_, ⟨hlt, hc2.symm⟩, by simp only; omega⟩
    clear hc2
    have hla := hl2 _ (List.getElem_mem hlt)
    generalize acts[s] = g at hg hla hle
    have hle2 : acc.length + (eItems g).length ≤ 10000 := by
      have : (deedsOf acts).length = (acts.flatMap fun a => (eItems a).map (fxE acts)).length := rfl
      simp only [List.length_map] at hle; omega
    obtain ⟨x, e', H', h1, rfl, rfl, g3, g5, g16, g17, g18⟩ := lp13_1 acts acts (eItems g) acc s (H.length :: bs) (H ++ [.box (cAct g)]) c1 hc1' hle2
    simp only [S, List.map_nil, Int.ofNat_eq_natCast, Int.natCast_zero, List.length_append, List.length_cons, List.length_nil, Nat.zero_add, Nat.reduceAdd] at h1
    have hen := fun bs H => en31 g hla bs H
    have hel : (eItems g).length = g.items.length := eFrom_len _ _ _
    simp [↓ev_loop, ev, evOps, evOp, wants, req, reqCall, inOf, evOpd, ofConst, ofCell, hands, Ann.mem, Env.get, Env.set, gives, handT, Op.operands, Call.operands, meet, putD, params, AV.strip, keepAt, lookN, Env.keep, binAV, intBinAV, headId, tidy, flagOp, nilConst, List.filterMap_cons, List.filterMap_nil, outOf, resAll, resOf, reifyR, reify, reifyP, clo, cloL, cloLL, cloEnv, loadBox, storeBox, okPut, buildElems, buildCells, int_beq, int_bne, h0, hw, hg, h1, hen, g3, g5, g16, g17, g18, S]
  · right
    have h0 : ¬ (s : Int) < (acts.length : Int) := by omega
    rw [List.take_of_length_le hge] at hc
    simp [↓ev_loop, ev, evOps, evOp, wants, req, reqCall, inOf, evOpd, ofConst, ofCell, hands, Ann.mem, Env.get, Env.set, gives, handT, Op.operands, Call.operands, meet, putD, params, AV.strip, keepAt, lookN, Env.keep, binAV, intBinAV, headId, tidy, flagOp, nilConst, List.filterMap_cons, List.filterMap_nil, outOf, resAll, resOf, reifyR, reify, reifyP, clo, cloL, cloLL, cloEnv, loadBox, storeBox, okPut, buildElems, buildCells, int_beq, int_bne, h0, S, hc, deedsOf]
theorem deeds13 (l : List Gazette) (acts : List Act) (hl : acts.length ≤ 10000) (hl2 : ∀ a ∈ acts, a.items.length ≤ 10000) (ht : (deedsOf acts).length ≤ 10000) (u : Bool)
    (h22 : ∀ bs H, callD X 22 [S cGazette l] bs H = some (.slc u (acts.map cAct), H)) (bs : List Nat) (H : List AO) :
    callD X 13 [S cGazette l] bs H = some (.slc true ((deedsOf acts).map cEI), H) := by
  rw [callD_eq]
  simp only [Xprim]
  unfold runBody
  simp only [XP, Try.func13, Xan13, Xok13]
  obtain ⟨c0, hc0⟩ : ∃ c, (loops (Try.f13.body.getD .skip))[0]? = some c := ⟨_, rfl⟩
  obtain ⟨c1, hc1⟩ : ∃ c, (loops (Try.f13.body.getD .skip))[1]? = some c := ⟨_, rfl⟩
  have hd0 := hc0
  simp only [Try.f13, loops, List.cons_append, List.nil_append, List.append_nil, List.getElem?_cons_zero, List.getElem?_cons_succ, Option.getD_some, Option.some.injEq] at hd0
  have hd1 := hc1
  simp only [Try.f13, loops, List.cons_append, List.nil_append, List.append_nil, List.getElem?_cons_zero, List.getElem?_cons_succ, Option.getD_some, Option.some.injEq] at hd1
  simp only [Try.f13]
  (try rw [hd0])
  (try rw [hd1])
  obtain ⟨x, e', H', h1, rfl, rfl, g3⟩ := lp13_0 acts (H.length :: bs) H c0 hc0 c1 hc1 hl hl2 ht
  simp only [S, List.map_nil, Int.ofNat_eq_natCast, Int.natCast_zero, List.length_append, List.length_cons, List.length_nil, Nat.zero_add, Nat.reduceAdd] at h1
  have h30 := fun bs H => corr30 acts hl hl2 bs H
  simp only [S] at h22 h30
  cases u <;> simp [↓ev_loop, ev, evOps, evOp, wants, req, reqCall, inOf, evOpd, ofConst, ofCell, hands, Ann.mem, Env.get, Env.set, gives, handT, Op.operands, Call.operands, meet, putD, params, AV.strip, keepAt, lookN, Env.keep, binAV, intBinAV, headId, tidy, flagOp, nilConst, List.filterMap_cons, List.filterMap_nil, outOf, resAll, resOf, reifyR, reify, reifyP, clo, cloL, cloLL, cloEnv, loadBox, storeBox, okPut, buildElems, buildCells, int_beq, int_bne, h1, g3, S, h22, h30]

theorem lp14_1 (acts : List Act) (a : Act) (acc0 : List EI) (i : Nat) (bs : List Nat) (H : List AO) (c1 : Code) (hc1 : (loops (Try.f14.body.getD .skip))[1]? = some c1) (hA : acts[i]? = some a) (hl0 : acts.length ≤ 10000) (hl2 : ∀ a ∈ acts, a.items.length ≤ 10000) (hl : acc0.length + a.items.length ≤ 10000) :
    ∃ x e' H', lev Try.prog an14 (callD X) c1 bs ((fun s : Nat × List EI => [(3, S cAct acts), (4, .slc true (s.2.map cEI)), (5, I i), (6, I s.1)]) ((0, acc0))) ((fun s : Nat × List EI => H) ((0, acc0))) = some (x, e', H') ∧ (H' = H ∧ x = .exit 2 ∧ e'.get 3 = S cAct acts ∧ e'.get 4 = .slc true ((acc0 ++ (eItems a).map (fxE acts)).map cEI) ∧ e'.get 5 = I i) := by
  simp only [Try.f14, loops, List.cons_append, List.nil_append, List.append_nil, List.getElem?_cons_zero, List.getElem?_cons_succ, Option.getD_some, Option.some.injEq] at hc1
  refine lev_inv (σ := Nat × List EI) (fun s => [(3, S cAct acts), (4, .slc true (s.2.map cEI)), (5, I i), (6, I s.1)]) (fun s => H) (fun s => s.1 ≤ a.items.length ∧ s.2 = acc0 ++ (eFrom a 0 (a.items.take s.1)).map (fxE acts)) (fun s => a.items.length - s.1) (fun x e' H' => H' = H ∧ x = .exit 2 ∧ e'.get 3 = S cAct acts ∧ e'.get 4 = .slc true ((acc0 ++ (eItems a).map (fxE acts)).map cEI) ∧ e'.get 5 = I i) ((0, acc0)) ?_ ?_ ?_ ?_ ?_
  · exact ⟨Nat.zero_le _, by simp [eFrom]⟩
  · intro s hs; simp
  · intro s hs; simp [cloEnv, clo, S]
  · intro s hs; subst hc1; simp [keepAt, headId, lookN, Env.keep, Env.get]
  intro s hs
  subst hc1
  obtain ⟨s, acc⟩ := s
  obtain ⟨hs, hc⟩ := hs
  simp only at hs hc ⊢
  rcases Nat.lt_or_ge s a.items.length with hlt | hge
  · left
    have h0 : (s : Int) < (a.items.length : Int) := by omega
    have hw := wrap_s s (by omega)
    have hg : a.items[s]? = some a.items[s] := by simp [hlt]
    have hln : acc.length + 1 ≤ 10000 := by rw [hc]; simp [eFrom_len]; omega
    have h5 : (acc.length + 1) * 392 ≤ 140737488355328 := by omega
    have h6 : acc.length + 1 ≤ 140737488355328 := by omega
    have hc2 : acc0 ++ (eFrom a 0 (a.items.take (s + 1))).map (fxE acts) = acc ++ [fxE acts ⟨a.number, s, a.day, a.items[s]⟩] := by
      rw [take_s _ s hlt, hc, eFrom_app]; simp only [List.map_append, List.append_assoc, eFrom, List.map_cons, List.map_nil, List.length_take]; congr 5; omega
    refine ⟨(s + 1, acc ++ [fxE acts ⟨a.number, s, a.day, a.items[s]⟩]), ?_, ⟨hlt, hc2.symm⟩, by simp only; omega⟩
    clear hc2
    generalize a.items[s] = g at hg
    have h33 := fun bs H => fix33 acts a.number s g hl0 hl2 bs H
    simp only [S] at h33
    simp (config := { maxSteps := 1000000 }) [↓ev_loop, ev, evOps, evOp, wants, req, reqCall, inOf, evOpd, ofConst, ofCell, hands, Ann.mem, Env.get, Env.set, gives, handT, Op.operands, Call.operands, meet, putD, params, AV.strip, keepAt, lookN, Env.keep, binAV, intBinAV, headId, tidy, flagOp, nilConst, List.filterMap_cons, List.filterMap_nil, outOf, resAll, resOf, reifyR, reify, reifyP, clo, cloL, cloLL, cloEnv, loadBox, storeBox, okPut, buildElems, buildCells, int_beq, int_bne, evDraw, evOpsD, evOpD, meetD, numbered, newsOf, newsIn, footsOk, apartF, clash, prec, Region.binds, h0, hw, hg, hA, h33, h5, h6, S, fxE]
  · right
    have h0 : ¬ (s : Int) < (a.items.length : Int) := by omega
    rw [List.take_of_length_le hge] at hc
    simp [↓ev_loop, ev, evOps, evOp, wants, req, reqCall, inOf, evOpd, ofConst, ofCell, hands, Ann.mem, Env.get, Env.set, gives, handT, Op.operands, Call.operands, meet, putD, params, AV.strip, keepAt, lookN, Env.keep, binAV, intBinAV, headId, tidy, flagOp, nilConst, List.filterMap_cons, List.filterMap_nil, outOf, resAll, resOf, reifyR, reify, reifyP, clo, cloL, cloLL, cloEnv, loadBox, storeBox, okPut, buildElems, buildCells, int_beq, int_bne, h0, S, hA, hc, eItems]

theorem lp14_0 (acts : List Act) (bs : List Nat) (H : List AO) (c0 : Code) (hc0 : (loops (Try.f14.body.getD .skip))[0]? = some c0) (c1 : Code) (hc1 : (loops (Try.f14.body.getD .skip))[1]? = some c1) (hl : acts.length ≤ 10000) (hl2 : ∀ a ∈ acts, a.items.length ≤ 10000) (ht : (deedsOf acts).length ≤ 10000) :
    ∃ x e' H', lev Try.prog an14 (callD X) c0 bs ((fun s : Nat × List EI => [(3, S cAct acts), (4, .slc true (s.2.map cEI)), (5, I s.1)]) ((0, []))) ((fun s : Nat × List EI => H) ((0, []))) = some (x, e', H') ∧ (H' = H ∧ x = .exit 0 ∧ e'.get 4 = .slc true ((deedsOf acts).map cEI)) := by
  have hc1' := hc1
  simp only [Try.f14, loops, List.cons_append, List.nil_append, List.append_nil, List.getElem?_cons_zero, List.getElem?_cons_succ, Option.getD_some, Option.some.injEq] at hc0
  simp only [Try.f14, loops, List.cons_append, List.nil_append, List.append_nil, List.getElem?_cons_zero, List.getElem?_cons_succ, Option.getD_some, Option.some.injEq] at hc1
  refine lev_inv (σ := Nat × List EI) (fun s => [(3, S cAct acts), (4, .slc true (s.2.map cEI)), (5, I s.1)]) (fun s => H) (fun s => s.1 ≤ acts.length ∧ s.2 = (acts.take s.1).flatMap fun a => (eItems a).map (fxE acts)) (fun s => acts.length - s.1) (fun x e' H' => H' = H ∧ x = .exit 0 ∧ e'.get 4 = .slc true ((deedsOf acts).map cEI)) ((0, [])) ?_ ?_ ?_ ?_ ?_
  · exact ⟨Nat.zero_le _, rfl⟩
  · intro s hs; simp
  · intro s hs; simp [cloEnv, clo, S]
  · intro s hs; subst hc0; simp [keepAt, headId, lookN, Env.keep, Env.get]
  intro s hs
  subst hc0
  (try rw [hc1])
  obtain ⟨s, acc⟩ := s
  obtain ⟨hs, hc⟩ := hs
  simp only at hs hc ⊢
  rcases Nat.lt_or_ge s acts.length with hlt | hge
  · left
    have h0 : (s : Int) < (acts.length : Int) := by omega
    have hw := wrap_s s (by omega)
    have hg : acts[s]? = some acts[s] := by simp [hlt]
    have hc2 : ((acts.take (s + 1)).flatMap fun a => (eItems a).map (fxE acts)) = acc ++ (eItems acts[s]).map (fxE acts) := by
      rw [take_s _ s hlt, hc]; simp only [List.flatMap_append, List.flatMap_cons, List.flatMap_nil, List.append_nil]
    have hle := fm_le (fun a => (eItems a).map (fxE acts)) acts s hlt
    rw [← hc] at hle
    refine ⟨(s + 1, acc ++ (eItems acts[s]).map (fxE acts)), ?_, ⟨hlt, hc2.symm⟩, by simp only; omega⟩
    clear hc2
    generalize acts[s] = g at hg hle
    have hel : (eItems g).length = g.items.length := eFrom_len _ _ _
    have hle2 : acc.length + g.items.length ≤ 10000 := by
      have : (deedsOf acts).length = (acts.flatMap fun a => (eItems a).map (fxE acts)).length := rfl
      simp only [List.length_map] at hle; omega
    obtain ⟨x, e', H', h1, rfl, rfl, g3, g4, g5⟩ := lp14_1 acts g acc s (H.length :: bs) H c1 hc1' hg hl hl2 hle2
    simp only [S, List.map_nil, Int.ofNat_eq_natCast, Int.natCast_zero, List.length_append, List.length_cons, List.length_nil, Nat.zero_add, Nat.reduceAdd] at h1
    simp [↓ev_loop, ev, evOps, evOp, wants, req, reqCall, inOf, evOpd, ofConst, ofCell, hands, Ann.mem, Env.get, Env.set, gives, handT, Op.operands, Call.operands, meet, putD, params, AV.strip, keepAt, lookN, Env.keep, binAV, intBinAV, headId, tidy, flagOp, nilConst, List.filterMap_cons, List.filterMap_nil, outOf, resAll, resOf, reifyR, reify, reifyP, clo, cloL, cloLL, cloEnv, loadBox, storeBox, okPut, buildElems, buildCells, int_beq, int_bne, h0, hw, hg, h1, g3, g4, g5, S]
  · right
    have h0 : ¬ (s : Int) < (acts.length : Int) := by omega
    rw [List.take_of_length_le hge] at hc
    simp [↓ev_loop, ev, evOps, evOp, wants, req, reqCall, inOf, evOpd, ofConst, ofCell, hands, Ann.mem, Env.get, Env.set, gives, handT, Op.operands, Call.operands, meet, putD, params, AV.strip, keepAt, lookN, Env.keep, binAV, intBinAV, headId, tidy, flagOp, nilConst, List.filterMap_cons, List.filterMap_nil, outOf, resAll, resOf, reifyR, reify, reifyP, clo, cloL, cloLL, cloEnv, loadBox, storeBox, okPut, buildElems, buildCells, int_beq, int_bne, h0, S, hc, deedsOf]
theorem deeds14 (l : List Gazette) (acts : List Act) (hl : acts.length ≤ 10000) (hl2 : ∀ a ∈ acts, a.items.length ≤ 10000) (ht : (deedsOf acts).length ≤ 10000) 
    (h25 : ∀ bs H, callD X 25 [S cGazette l] bs H = some (S cAct acts, H)) (bs : List Nat) (H : List AO) :
    callD X 14 [S cGazette l] bs H = some (.slc true ((deedsOf acts).map cEI), H) := by
  rw [callD_eq]
  simp only [Xprim]
  unfold runBody
  simp only [XP, Try.func14, Xan14, Xok14]
  obtain ⟨c0, hc0⟩ : ∃ c, (loops (Try.f14.body.getD .skip))[0]? = some c := ⟨_, rfl⟩
  obtain ⟨c1, hc1⟩ : ∃ c, (loops (Try.f14.body.getD .skip))[1]? = some c := ⟨_, rfl⟩
  have hd0 := hc0
  simp only [Try.f14, loops, List.cons_append, List.nil_append, List.append_nil, List.getElem?_cons_zero, List.getElem?_cons_succ, Option.getD_some, Option.some.injEq] at hd0
  have hd1 := hc1
  simp only [Try.f14, loops, List.cons_append, List.nil_append, List.append_nil, List.getElem?_cons_zero, List.getElem?_cons_succ, Option.getD_some, Option.some.injEq] at hd1
  simp only [Try.f14]
  (try rw [hd0])
  (try rw [hd1])
  obtain ⟨x, e', H', h1, rfl, rfl, g4⟩ := lp14_0 acts (H.length :: bs) H c0 hc0 c1 hc1 hl hl2 ht
  simp only [S, List.map_nil, Int.ofNat_eq_natCast, Int.natCast_zero, List.length_append, List.length_cons, List.length_nil, Nat.zero_add, Nat.reduceAdd] at h1
  simp only [S] at h25
  simp [↓ev_loop, ev, evOps, evOp, wants, req, reqCall, inOf, evOpd, ofConst, ofCell, hands, Ann.mem, Env.get, Env.set, gives, handT, Op.operands, Call.operands, meet, putD, params, AV.strip, keepAt, lookN, Env.keep, binAV, intBinAV, headId, tidy, flagOp, nilConst, List.filterMap_cons, List.filterMap_nil, outOf, resAll, resOf, reifyR, reify, reifyP, clo, cloL, cloLL, cloEnv, loadBox, storeBox, okPut, buildElems, buildCells, int_beq, int_bne, h1, g4, S, h25]
end Go.Proofs.Ytlpilgnjlnepeaa.T
namespace Go.Proofs.Ytlpilgnjlnepeaa.T
open Go.VM Go.Proofs
set_option linter.unusedSimpArgs false
set_option maxHeartbeats 16000000
set_option maxRecDepth 10000

theorem lp12 (a b : List EI) (bs : List Nat) (H : List AO) (c0 : Code) (hc0 : (loops (Try.f12.body.getD .skip))[0]? = some c0) (hl : a.length ≤ 4000000000000000000) (hab : a.length = b.length) (hwf : ∀ d ∈ a, wfI d.it) :
    ∃ x e' H', lev Try.prog an12 (callD X) c0 bs ((fun s : Nat => [(0, S cEI a), (1, S cEI b), (5, I s)]) (0)) ((fun s : Nat => H) (0)) = some (x, e', H') ∧ (H' = H ∧ ((x = .exit 0 ∧ a = b) ∨ (x = .ret ∧ e'.get 4 = .bool false ∧ a ≠ b))) := by
  simp only [Try.f12, loops, List.cons_append, List.nil_append, List.append_nil, List.getElem?_cons_zero, List.getElem?_cons_succ, Option.getD_some, Option.some.injEq] at hc0
  refine lev_inv (σ := Nat) (fun s => [(0, S cEI a), (1, S cEI b), (5, I s)]) (fun s => H) (fun s => s ≤ a.length ∧ a.take s = b.take s) (fun s => a.length - s) (fun x e' H' => H' = H ∧ ((x = .exit 0 ∧ a = b) ∨ (x = .ret ∧ e'.get 4 = .bool false ∧ a ≠ b))) (0) ?_ ?_ ?_ ?_ ?_
  · simp
  · intro s hs; simp
  · intro s hs; simp [cloEnv, clo, S]
  · intro s hs; subst hc0; simp [keepAt, headId, lookN, Env.keep, Env.get]
  intro s hs
  subst hc0
  obtain ⟨hs, ha⟩ := hs
  rcases Nat.lt_or_ge s a.length with hlt | hge
  · have hlt' : s < b.length := by omega
    have h0 : (s : Int) < (a.length : Int) := by omega
    have hw := wrap_s s (by omega)
    have hg : a[s]? = some a[s] := by simp [hlt]
    have hg' : b[s]? = some b[s] := by simp [hlt']
    have ih' := fun bs H => eq17 a[s] b[s] (hwf _ (List.getElem_mem hlt)) bs H
    by_cases he : a[s] = b[s]
    · left
      refine ⟨s + 1, ?_, ⟨hlt, by rw [take_s a s hlt, take_s b s hlt', ha, he]⟩, by omega⟩
      rw [← he] at hg' ih'
      generalize a[s] = g at hg hg' ih'
      simp [↓ev_loop, ev, evOps, evOp, wants, req, reqCall, inOf, evOpd, ofConst, ofCell, hands, Ann.mem, Env.get, Env.set, gives, handT, Op.operands, Call.operands, meet, putD, params, AV.strip, keepAt, lookN, Env.keep, binAV, intBinAV, headId, tidy, flagOp, nilConst, List.filterMap_cons, List.filterMap_nil, outOf, resAll, resOf, reifyR, reify, reifyP, clo, cloL, cloLL, cloEnv, loadBox, storeBox, okPut, buildElems, buildCells, int_beq, int_bne, evDraw, evOpsD, evOpD, meetD, numbered, newsOf, newsIn, footsOk, apartF, clash, prec, Region.binds, S, h0, hw, hg, hg', ih']
    · right
      have hne : a ≠ b := by rintro rfl; exact he rfl
      generalize a[s] = g at hg he ih'
      generalize b[s] = g' at hg' he ih'
      simp [↓ev_loop, ev, evOps, evOp, wants, req, reqCall, inOf, evOpd, ofConst, ofCell, hands, Ann.mem, Env.get, Env.set, gives, handT, Op.operands, Call.operands, meet, putD, params, AV.strip, keepAt, lookN, Env.keep, binAV, intBinAV, headId, tidy, flagOp, nilConst, List.filterMap_cons, List.filterMap_nil, outOf, resAll, resOf, reifyR, reify, reifyP, clo, cloL, cloLL, cloEnv, loadBox, storeBox, okPut, buildElems, buildCells, int_beq, int_bne, evDraw, evOpsD, evOpD, meetD, numbered, newsOf, newsIn, footsOk, apartF, clash, prec, Region.binds, S, h0, hw, hg, hg', beqP_ne he, hne, ih']
  · right
    have h0 : ¬ (s : Int) < (a.length : Int) := by omega
    have hab2 : a = b := by rw [List.take_of_length_le hge, List.take_of_length_le (by omega)] at ha; exact ha
    subst hab2
    simp [↓ev_loop, ev, evOps, evOp, wants, req, reqCall, inOf, evOpd, ofConst, ofCell, hands, Ann.mem, Env.get, Env.set, gives, handT, Op.operands, Call.operands, meet, putD, params, AV.strip, keepAt, lookN, Env.keep, binAV, intBinAV, headId, tidy, flagOp, nilConst, List.filterMap_cons, List.filterMap_nil, outOf, resAll, resOf, reifyR, reify, reifyP, clo, cloL, cloLL, cloEnv, loadBox, storeBox, okPut, buildElems, buildCells, int_beq, int_bne, S, h0]
theorem rows12 (a b : List EI) (hl : a.length ≤ 4000000000000000000) (hwf : ∀ d ∈ a, wfI d.it) (bs : List Nat) (H : List AO) : callD X 12 [S cEI a, S cEI b] bs H = some (.bool (beqP a b), H) := by
  rw [callD_eq]
  simp only [Xprim]
  unfold runBody
  simp only [XP, Try.func12, Xan12, Xok12]
  obtain ⟨c0, hc0⟩ : ∃ c, (loops (Try.f12.body.getD .skip))[0]? = some c := ⟨_, rfl⟩
  have hd0 := hc0
  simp only [Try.f12, loops, List.cons_append, List.nil_append, List.append_nil, List.getElem?_cons_zero, List.getElem?_cons_succ, Option.getD_some, Option.some.injEq] at hd0
  simp only [Try.f12]
  (try rw [hd0])
  by_cases hab : a.length = b.length
  · obtain ⟨x, e', H', h1, rfl, h2⟩ := lp12 a b (H.length :: bs) H c0 hc0 hl hab hwf
    simp only [S, List.map_nil, Int.ofNat_eq_natCast, Int.natCast_zero, List.length_append, List.length_cons, List.length_nil, Nat.zero_add, Nat.reduceAdd] at h1
    (try simp only [hab] at h1)
    rcases h2 with ⟨rfl, rfl⟩ | ⟨rfl, h3, h4⟩
    · simp [↓ev_loop, ev, evOps, evOp, wants, req, reqCall, inOf, evOpd, ofConst, ofCell, hands, Ann.mem, Env.get, Env.set, gives, handT, Op.operands, Call.operands, meet, putD, params, AV.strip, keepAt, lookN, Env.keep, binAV, intBinAV, headId, tidy, flagOp, nilConst, List.filterMap_cons, List.filterMap_nil, outOf, resAll, resOf, reifyR, reify, reifyP, clo, cloL, cloLL, cloEnv, loadBox, storeBox, okPut, buildElems, buildCells, int_beq, int_bne, h1, S]
    · simp [↓ev_loop, ev, evOps, evOp, wants, req, reqCall, inOf, evOpd, ofConst, ofCell, hands, Ann.mem, Env.get, Env.set, gives, handT, Op.operands, Call.operands, meet, putD, params, AV.strip, keepAt, lookN, Env.keep, binAV, intBinAV, headId, tidy, flagOp, nilConst, List.filterMap_cons, List.filterMap_nil, outOf, resAll, resOf, reifyR, reify, reifyP, clo, cloL, cloLL, cloEnv, loadBox, storeBox, okPut, buildElems, buildCells, int_beq, int_bne, h1, h3, hab, h4, S]
  · have hne : a ≠ b := by rintro rfl; exact hab rfl
    have h0 : ¬ ((a.length : Int) = (b.length : Int)) := by omega
    simp [↓ev_loop, ev, evOps, evOp, wants, req, reqCall, inOf, evOpd, ofConst, ofCell, hands, Ann.mem, Env.get, Env.set, gives, handT, Op.operands, Call.operands, meet, putD, params, AV.strip, keepAt, lookN, Env.keep, binAV, intBinAV, headId, tidy, flagOp, nilConst, List.filterMap_cons, List.filterMap_nil, outOf, resAll, resOf, reifyR, reify, reifyP, clo, cloL, cloLL, cloEnv, loadBox, storeBox, okPut, buildElems, buildCells, int_beq, int_bne, hab, h0, hne, S]

/-! finding -/
def idxF {α : Type} (p : α → Bool) : List α → Nat → Int
  | [], _ => -1
  | x :: r, i => if p x = true then i else idxF p r (i + 1)
theorem idxF_spec {α : Type} (p : α → Bool) (l : List α) : ∀ i, (idxF p l i = -1 ∧ l.find? p = none) ∨ ∃ j x, idxF p l i = ((i + j : Nat) : Int) ∧ l[j]? = some x ∧ l.find? p = some x := by
  induction l with
  | nil => intro i; left; exact ⟨rfl, rfl⟩
  | cons x r ih =>
    intro i
    by_cases h : p x = true
    · right; exact ⟨0, x, by simp [idxF, h], rfl, by simp [h]⟩
    · rcases ih (i + 1) with ⟨h1, h2⟩ | ⟨j, y, h1, h2, h3⟩
      · left; exact ⟨by simp [idxF, h, h1], by simp [h, h2]⟩
      · right; exact ⟨j + 1, y, by simp only [idxF, h, h1]; simp; omega, by simpa using h2, by simp [h, h3]⟩
def isE (n k : Int) (d : EI) : Bool := decide (d.act = n) && decide (d.item = k)
theorem is35 (n k : Int) (d : EI) (a b : Nat) (bs : List Nat) (H : List AO) (ha : H[a]? = some (.box [I n])) (hb : H[b]? = some (.box [I k])) :
    callD X 35 [.agg (cEI d), .ptr a 0, .ptr b 0] bs H = some (.bool (isE n k d), H) := by
  rw [callD_eq]
  simp only [Xprim]
  unfold runBody
  simp only [XP, Try.func35, Xan35, Xok35]
  have ha' : (H ++ [.box (cEI d)])[a]? = some (.box [I n]) := by rw [List.getElem?_append_left (lt_of_get ha)]; exact ha
  have hb' : (H ++ [.box (cEI d)])[b]? = some (.box [I k]) := by rw [List.getElem?_append_left (lt_of_get hb)]; exact hb
  have hr : ∀ n, readCells Try.prog 3 [I n] 0 = some (I n) := fun n => r3_0_3 n
  unfold isE
  by_cases h1 : d.act = n
  · by_cases h2 : d.item = k <;> simp [Try.f35, ↓ev_loop, ev, evOps, evOp, wants, req, reqCall, inOf, evOpd, ofConst, ofCell, hands, Ann.mem, Env.get, Env.set, gives, handT, Op.operands, Call.operands, meet, putD, params, AV.strip, keepAt, lookN, Env.keep, binAV, intBinAV, headId, tidy, flagOp, nilConst, List.filterMap_cons, List.filterMap_nil, outOf, resAll, resOf, reifyR, reify, reifyP, clo, cloL, cloLL, cloEnv, loadBox, storeBox, okPut, buildElems, buildCells, int_beq, int_bne, h1, h2, ha', hb', hr]
  · simp [Try.f35, ↓ev_loop, ev, evOps, evOp, wants, req, reqCall, inOf, evOpd, ofConst, ofCell, hands, Ann.mem, Env.get, Env.set, gives, handT, Op.operands, Call.operands, meet, putD, params, AV.strip, keepAt, lookN, Env.keep, binAV, intBinAV, headId, tidy, flagOp, nilConst, List.filterMap_cons, List.filterMap_nil, outOf, resAll, resOf, reifyR, reify, reifyP, clo, cloL, cloLL, cloEnv, loadBox, storeBox, okPut, buildElems, buildCells, int_beq, int_bne, h1, ha', hb', hr]

theorem lp34 (l : List EI) (n k : Int) (a b : Nat) (bs : List Nat) (H : List AO) (c0 : Code) (hc0 : (loops (Try.f34.body.getD .skip))[0]? = some c0) (hl : l.length ≤ 4000000000000000000) (ha : H[a]? = some (.box [I n])) (hb : H[b]? = some (.box [I k])) :
    ∃ x e' H', lev Try.prog an34 (callD X) c0 bs ((fun s : Nat => [(0, S cEI l), (1, .func 35 [] [.ptr a 0, .ptr b 0]), (7, I l.length), (8, I s)]) (0)) ((fun s : Nat => H) (0)) = some (x, e', H') ∧ (H' = H ∧ ((x = .exit 0 ∧ idxF (isE n k) l 0 = -1) ∨ (x = .ret ∧ e'.get 4 = I (idxF (isE n k) l 0)))) := by
  simp only [Try.f34, loops, List.cons_append, List.nil_append, List.append_nil, List.getElem?_cons_zero, List.getElem?_cons_succ, Option.getD_some, Option.some.injEq] at hc0
  refine lev_inv (σ := Nat) (fun s => [(0, S cEI l), (1, .func 35 [] [.ptr a 0, .ptr b 0]), (7, I l.length), (8, I s)]) (fun s => H) (fun s => s ≤ l.length ∧ idxF (isE n k) l 0 = idxF (isE n k) (l.drop s) s) (fun s => l.length - s) (fun x e' H' => H' = H ∧ ((x = .exit 0 ∧ idxF (isE n k) l 0 = -1) ∨ (x = .ret ∧ e'.get 4 = I (idxF (isE n k) l 0)))) (0) ?_ ?_ ?_ ?_ ?_
  · simp
  · intro s hs; simp
  · intro s hs; simp [cloEnv, clo, cloL, S, lt_of_get ha, lt_of_get hb]
  · intro s hs; subst hc0; simp [keepAt, headId, lookN, Env.keep, Env.get]
  intro s hs
  subst hc0
  obtain ⟨hs, hi⟩ := hs
  have hpa := lt_of_get ha
  have hpb := lt_of_get hb
  rcases Nat.lt_or_ge s l.length with hlt | hge
  · have h0 : (s : Int) < (l.length : Int) := by omega
    have hw := wrap_s s (by omega)
    have hg : l[s]? = some l[s] := by simp [hlt]
    rw [List.drop_eq_getElem_cons hlt] at hi
    have hq := fun bs => is35 n k l[s] a b bs H ha hb
    generalize l[s] = g at hg hi hq
    cases hv : isE n k g
    · left
      exact ⟨s + 1, by simp [↓ev_loop, ev, evOps, evOp, wants, req, reqCall, inOf, evOpd, ofConst, ofCell, hands, Ann.mem, Env.get, Env.set, gives, handT, Op.operands, Call.operands, meet, putD, params, AV.strip, keepAt, lookN, Env.keep, binAV, intBinAV, headId, tidy, flagOp, nilConst, List.filterMap_cons, List.filterMap_nil, outOf, resAll, resOf, reifyR, reify, reifyP, clo, cloL, cloLL, cloEnv, loadBox, storeBox, okPut, buildElems, buildCells, int_beq, int_bne, h0, hw, hg, hq, hv, S], ⟨hlt, by simpa [idxF, hv] using hi⟩, by omega⟩
    · right
      have hi2 : idxF (isE n k) l 0 = s := by simpa [idxF, hv] using hi
      simp [↓ev_loop, ev, evOps, evOp, wants, req, reqCall, inOf, evOpd, ofConst, ofCell, hands, Ann.mem, Env.get, Env.set, gives, handT, Op.operands, Call.operands, meet, putD, params, AV.strip, keepAt, lookN, Env.keep, binAV, intBinAV, headId, tidy, flagOp, nilConst, List.filterMap_cons, List.filterMap_nil, outOf, resAll, resOf, reifyR, reify, reifyP, clo, cloL, cloLL, cloEnv, loadBox, storeBox, okPut, buildElems, buildCells, int_beq, int_bne, h0, hw, hg, hq, hv, S, hi2]
  · right
    have h0 : ¬ (s : Int) < (l.length : Int) := by omega
    rw [List.drop_of_length_le hge] at hi
    simp [↓ev_loop, ev, evOps, evOp, wants, req, reqCall, inOf, evOpd, ofConst, ofCell, hands, Ann.mem, Env.get, Env.set, gives, handT, Op.operands, Call.operands, meet, putD, params, AV.strip, keepAt, lookN, Env.keep, binAV, intBinAV, headId, tidy, flagOp, nilConst, List.filterMap_cons, List.filterMap_nil, outOf, resAll, resOf, reifyR, reify, reifyP, clo, cloL, cloLL, cloEnv, loadBox, storeBox, okPut, buildElems, buildCells, int_beq, int_bne, h0, S]; exact hi
theorem idx34 (l : List EI) (n k : Int) (a b : Nat) (hl : l.length ≤ 4000000000000000000) (bs : List Nat) (H : List AO) (ha : H[a]? = some (.box [I n])) (hb : H[b]? = some (.box [I k])) :
    callD X 34 [S cEI l, .func 35 [] [.ptr a 0, .ptr b 0]] bs H = some (I (idxF (isE n k) l 0), H) := by
  rw [callD_eq]
  simp only [Xprim]
  unfold runBody
  simp only [XP, Try.func34, Xan34, Xok34]
  obtain ⟨c0, hc0⟩ : ∃ c, (loops (Try.f34.body.getD .skip))[0]? = some c := ⟨_, rfl⟩
  have hd0 := hc0
  simp only [Try.f34, loops, List.cons_append, List.nil_append, List.append_nil, List.getElem?_cons_zero, List.getElem?_cons_succ, Option.getD_some, Option.some.injEq] at hd0
  simp only [Try.f34]
  (try rw [hd0])
  obtain ⟨x, e', H', h1, rfl, h2⟩ := lp34 l n k a b (H.length :: bs) H c0 hc0 hl ha hb
  simp only [S, List.map_nil, Int.ofNat_eq_natCast, Int.natCast_zero, List.length_append, List.length_cons, List.length_nil, Nat.zero_add, Nat.reduceAdd] at h1
  rcases h2 with ⟨rfl, h3⟩ | ⟨rfl, h3⟩
  · simp [↓ev_loop, ev, evOps, evOp, wants, req, reqCall, inOf, evOpd, ofConst, ofCell, hands, Ann.mem, Env.get, Env.set, gives, handT, Op.operands, Call.operands, meet, putD, params, AV.strip, keepAt, lookN, Env.keep, binAV, intBinAV, headId, tidy, flagOp, nilConst, List.filterMap_cons, List.filterMap_nil, outOf, resAll, resOf, reifyR, reify, reifyP, clo, cloL, cloLL, cloEnv, loadBox, storeBox, okPut, buildElems, buildCells, int_beq, int_bne, h1, h3, S]
  · simp [↓ev_loop, ev, evOps, evOp, wants, req, reqCall, inOf, evOpd, ofConst, ofCell, hands, Ann.mem, Env.get, Env.set, gives, handT, Op.operands, Call.operands, meet, putD, params, AV.strip, keepAt, lookN, Env.keep, binAV, intBinAV, headId, tidy, flagOp, nilConst, List.filterMap_cons, List.filterMap_nil, outOf, resAll, resOf, reifyR, reify, reifyP, clo, cloL, cloLL, cloEnv, loadBox, storeBox, okPut, buildElems, buildCells, int_beq, int_bne, h1, h3, S]
/-- What Find returns. -/
def found (n k : Int) (es : List EI) : AV := .tup [.agg (cEI ((es.find? (isE n k)).getD zEI)), .bool (es.find? (isE n k)).isSome]
theorem find15 (l : List Gazette) (n k : Int) (es : List EI) (hl : es.length ≤ 10000) (h13 : ∀ bs H, callD X 13 [S cGazette l] bs H = some (.slc true (es.map cEI), H)) (bs : List Nat) (H : List AO) :
    callD X 15 [I n, I k, S cGazette l] bs H = some (found n k es, H) := by
  rw [callD_eq]
  simp only [Xprim]
  unfold runBody
  simp only [XP, Try.func15, Xan15, Xok15]
  have hx := fun bs H ha hb => idx34 es n k H.length (H.length + 1) (by omega) bs (H ++ [.box [I n], .box [I k], .box (cEI zEI)]) ha hb
  have hx := fun bs => hx bs H (by simp) (by simp)
  simp only [S] at h13 hx
  unfold found
  rcases idxF_spec (isE n k) es 0 with ⟨h1, h2⟩ | ⟨j, y, h1, h2, h3⟩
  · rw [h1] at hx
    simp [Try.f15, ↓ev_loop, ev, evOps, evOp, wants, req, reqCall, inOf, evOpd, ofConst, ofCell, hands, Ann.mem, Env.get, Env.set, gives, handT, Op.operands, Call.operands, meet, putD, params, AV.strip, keepAt, lookN, Env.keep, binAV, intBinAV, headId, tidy, flagOp, nilConst, List.filterMap_cons, List.filterMap_nil, outOf, resAll, resOf, reifyR, reify, reifyP, clo, cloL, cloLL, cloEnv, loadBox, storeBox, okPut, buildElems, buildCells, int_beq, int_bne, S, h13, hx, h2]
  · rw [h1] at hx
    have hn : ¬ ((j : Int) < 0) := by omega
    simp [Try.f15, ↓ev_loop, ev, evOps, evOp, wants, req, reqCall, inOf, evOpd, ofConst, ofCell, hands, Ann.mem, Env.get, Env.set, gives, handT, Op.operands, Call.operands, meet, putD, params, AV.strip, keepAt, lookN, Env.keep, binAV, intBinAV, headId, tidy, flagOp, nilConst, List.filterMap_cons, List.filterMap_nil, outOf, resAll, resOf, reifyR, reify, reifyP, clo, cloL, cloLL, cloEnv, loadBox, storeBox, okPut, buildElems, buildCells, int_beq, int_bne, S, h13, hx, h2, h3, hn]
end Go.Proofs.Ytlpilgnjlnepeaa.T
namespace Go.Proofs.Ytlpilgnjlnepeaa.T
open Go.VM Go.Proofs
set_option linter.unusedSimpArgs false
set_option maxHeartbeats 16000000
set_option maxRecDepth 10000

theorem lp16 (l : List EI) (n k : Int) (q : Nat) (bs : List Nat) (H : List AO) (c0 : Code) (hc0 : (loops (Try.f16.body.getD .skip))[0]? = some c0) (hl : l.length ≤ 10000) (hq : H[q]? = some (.box (cEI zEI))) :
    ∃ x e' H', lev Try.prog an16 (callD X) c0 bs ((fun s : Nat => [(0, I n), (1, I k), (6, .ptr q 0), (8, .slc true (l.map cEI)), (9, I s)]) (0)) ((fun s : Nat => H) (0)) = some (x, e', H') ∧ ((x = .exit 0 ∧ H' = H ∧ l.find? (isE n k) = none ∧ e'.get 6 = .ptr q 0) ∨ (x = .ret ∧ e'.get 7 = .bool true ∧ e'.get 6 = .ptr q 0 ∧ ∃ y, l.find? (isE n k) = some y ∧ H' = H.set q (.box (cEI y)))) := by
  simp only [Try.f16, loops, List.cons_append, List.nil_append, List.append_nil, List.getElem?_cons_zero, List.getElem?_cons_succ, Option.getD_some, Option.some.injEq] at hc0
  refine lev_inv (σ := Nat) (fun s => [(0, I n), (1, I k), (6, .ptr q 0), (8, .slc true (l.map cEI)), (9, I s)]) (fun s => H) (fun s => s ≤ l.length ∧ l.find? (isE n k) = (l.drop s).find? (isE n k)) (fun s => l.length - s) (fun x e' H' => (x = .exit 0 ∧ H' = H ∧ l.find? (isE n k) = none ∧ e'.get 6 = .ptr q 0) ∨ (x = .ret ∧ e'.get 7 = .bool true ∧ e'.get 6 = .ptr q 0 ∧ ∃ y, l.find? (isE n k) = some y ∧ H' = H.set q (.box (cEI y)))) (0) ?_ ?_ ?_ ?_ ?_
  · simp
  · intro s hs; simp
  · intro s hs; simp [cloEnv, clo, S, lt_of_get hq]
  · intro s hs; subst hc0; simp [keepAt, headId, lookN, Env.keep, Env.get]
  intro s hs
  subst hc0
  obtain ⟨hs, hi⟩ := hs
  rcases Nat.lt_or_ge s l.length with hlt | hge
  · have h0 : (s : Int) < (l.length : Int) := by omega
    have hw := wrap_s s (by omega)
    have hg : l[s]? = some l[s] := by simp [hlt]
    rw [List.drop_eq_getElem_cons hlt] at hi
    generalize l[s] = g at hg hi
    by_cases k1 : g.act = n
    · by_cases k2 : g.item = k
      · right
        have hv : isE n k g = true := by simp [isE, k1, k2]
        have hi2 : l.find? (isE n k) = some g := by simpa [hv] using hi
        simp [↓ev_loop, ev, evOps, evOp, wants, req, reqCall, inOf, evOpd, ofConst, ofCell, hands, Ann.mem, Env.get, Env.set, gives, handT, Op.operands, Call.operands, meet, putD, params, AV.strip, keepAt, lookN, Env.keep, binAV, intBinAV, headId, tidy, flagOp, nilConst, List.filterMap_cons, List.filterMap_nil, outOf, resAll, resOf, reifyR, reify, reifyP, clo, cloL, cloLL, cloEnv, loadBox, storeBox, okPut, buildElems, buildCells, int_beq, int_bne, h0, hw, hg, hq, k1, k2, S, hi2]
      · left
        have hv : isE n k g = false := by simp [isE, k2]
        exact ⟨s + 1, by simp [↓ev_loop, ev, evOps, evOp, wants, req, reqCall, inOf, evOpd, ofConst, ofCell, hands, Ann.mem, Env.get, Env.set, gives, handT, Op.operands, Call.operands, meet, putD, params, AV.strip, keepAt, lookN, Env.keep, binAV, intBinAV, headId, tidy, flagOp, nilConst, List.filterMap_cons, List.filterMap_nil, outOf, resAll, resOf, reifyR, reify, reifyP, clo, cloL, cloLL, cloEnv, loadBox, storeBox, okPut, buildElems, buildCells, int_beq, int_bne, h0, hw, hg, hq, k1, k2, S], ⟨hlt, by simpa [hv] using hi⟩, by omega⟩
    · left
      have hv : isE n k g = false := by simp [isE, k1]
      exact ⟨s + 1, by simp [↓ev_loop, ev, evOps, evOp, wants, req, reqCall, inOf, evOpd, ofConst, ofCell, hands, Ann.mem, Env.get, Env.set, gives, handT, Op.operands, Call.operands, meet, putD, params, AV.strip, keepAt, lookN, Env.keep, binAV, intBinAV, headId, tidy, flagOp, nilConst, List.filterMap_cons, List.filterMap_nil, outOf, resAll, resOf, reifyR, reify, reifyP, clo, cloL, cloLL, cloEnv, loadBox, storeBox, okPut, buildElems, buildCells, int_beq, int_bne, h0, hw, hg, hq, k1, S], ⟨hlt, by simpa [hv] using hi⟩, by omega⟩
  · right
    have h0 : ¬ (s : Int) < (l.length : Int) := by omega
    rw [List.drop_of_length_le hge] at hi
    simp only [List.find?_nil] at hi
    simp [↓ev_loop, ev, evOps, evOp, wants, req, reqCall, inOf, evOpd, ofConst, ofCell, hands, Ann.mem, Env.get, Env.set, gives, handT, Op.operands, Call.operands, meet, putD, params, AV.strip, keepAt, lookN, Env.keep, binAV, intBinAV, headId, tidy, flagOp, nilConst, List.filterMap_cons, List.filterMap_nil, outOf, resAll, resOf, reifyR, reify, reifyP, clo, cloL, cloLL, cloEnv, loadBox, storeBox, okPut, buildElems, buildCells, int_beq, int_bne, h0, S, hi]
theorem find16 (l : List Gazette) (n k : Int) (es : List EI) (hl : es.length ≤ 10000) (h14 : ∀ bs H, callD X 14 [S cGazette l] bs H = some (.slc true (es.map cEI), H)) (bs : List Nat) (H : List AO) :
    callD X 16 [I n, I k, S cGazette l] bs H = some (found n k es, H) := by
  rw [callD_eq]
  simp only [Xprim]
  unfold runBody
  simp only [XP, Try.func16, Xan16, Xok16]
  obtain ⟨c0, hc0⟩ : ∃ c, (loops (Try.f16.body.getD .skip))[0]? = some c := ⟨_, rfl⟩
  have hd0 := hc0
  simp only [Try.f16, loops, List.cons_append, List.nil_append, List.append_nil, List.getElem?_cons_zero, List.getElem?_cons_succ, Option.getD_some, Option.some.injEq] at hd0
  simp only [Try.f16]
  (try rw [hd0])
  obtain ⟨x, e', H', h1, h2⟩ := lp16 es n k H.length (H.length :: bs) (H ++ [.box (cEI zEI)]) c0 hc0 hl (by simp)
  simp only [S, List.map_nil, Int.ofNat_eq_natCast, Int.natCast_zero, List.length_append, List.length_cons, List.length_nil, Nat.zero_add, Nat.reduceAdd] at h1
  simp only [S] at h14
  unfold found
  rcases h2 with ⟨rfl, rfl, h3, h4⟩ | ⟨rfl, h3, h4, y, h5, rfl⟩
  · simp [↓ev_loop, ev, evOps, evOp, wants, req, reqCall, inOf, evOpd, ofConst, ofCell, hands, Ann.mem, Env.get, Env.set, gives, handT, Op.operands, Call.operands, meet, putD, params, AV.strip, keepAt, lookN, Env.keep, binAV, intBinAV, headId, tidy, flagOp, nilConst, List.filterMap_cons, List.filterMap_nil, outOf, resAll, resOf, reifyR, reify, reifyP, clo, cloL, cloLL, cloEnv, loadBox, storeBox, okPut, buildElems, buildCells, int_beq, int_bne, h1, h3, h4, h14, S]
  · simp [↓ev_loop, ev, evOps, evOp, wants, req, reqCall, inOf, evOpd, ofConst, ofCell, hands, Ann.mem, Env.get, Env.set, gives, handT, Op.operands, Call.operands, meet, putD, params, AV.strip, keepAt, lookN, Env.keep, binAV, intBinAV, headId, tidy, flagOp, nilConst, List.filterMap_cons, List.filterMap_nil, outOf, resAll, resOf, reifyR, reify, reifyP, clo, cloL, cloLL, cloEnv, loadBox, storeBox, okPut, buildElems, buildCells, int_beq, int_bne, h1, h3, h4, h5, h14, S]

/-! since -/
theorem cz0 (x y : Int) : cz x y = 0 ↔ x = y := by unfold cz; split <;> (try split) <;> constructor <;> intro h <;> omega
theorem or0 (a b c : Int) : orZ [a, b, c] = 0 ↔ a = 0 ∧ b = 0 ∧ c = 0 := by
  unfold orZ orZ orZ orZ; split <;> (try split) <;> (try split) <;> simp_all
theorem alike_eq (a b : EI) : (decide (orZ [cz a.day b.day, cz a.act b.act, cz a.item b.item] = 0) && beqP a.it b.it) = beqP a b := by
  rw [Bool.eq_iff_iff, Bool.and_eq_true, decide_eq_true_eq, or0, cz0, cz0, cz0, beqP_iff, beqP_iff]
  constructor
  · rintro ⟨⟨h1, h2, h3⟩, h4⟩; exact ei_ext h2 h3 h1 h4
  · rintro rfl; simp
noncomputable def goodAt (n k : Int) (F : Nat → List EI) (d : EI) (j : Nat) : Bool := match (F j).find? (isE n k) with | some x => beqP x d | none => false
def sinceN (good : Nat → Bool) : Nat → Nat → Nat
  | 0, _ => 0
  | f + 1, k => if good k = true then k else sinceN good f (k + 1)
noncomputable def sinceF (n k : Int) (F : Nat → List EI) (len : Nat) : Nat := match (F len).find? (isE n k) with | some d => sinceN (goodAt n k F d) len 1 | none => 0

theorem lp18 (l : List Gazette) (n k : Int) (F : Nat → List EI) (q : Nat) (d : EI) (bs : List Nat) (H : List AO) (c0 : Code) (hc0 : (loops (Try.f18.body.getD .skip))[0]? = some c0) (hl : l.length ≤ 10000) (hq : H[q]? = some (.box (cEI d))) (h15 : ∀ j, j ≤ l.length → ∀ bs H, callD X 15 [I n, I k, S cGazette (l.take j)] bs H = some (found n k (F j), H)) (hwf : ∀ j, ∀ y ∈ F j, wfI y.it) :
    ∃ x e' H', lev Try.prog an18 (callD X) c0 bs ((fun s : Nat => [(0, I n), (1, I k), (2, S cGazette l), (7, .ptr q 0), (8, .bool true), (9, I s)]) (1)) ((fun s : Nat => H) (1)) = some (x, e', H') ∧ (H'.take H.length = H ∧ H.length ≤ H'.length ∧ ((x = .exit 0 ∧ sinceN (goodAt n k F d) l.length 1 = 0) ∨ (x = .ret ∧ e'.get 6 = I (sinceN (goodAt n k F d) l.length 1)))) := by
  simp only [Try.f18, loops, List.cons_append, List.nil_append, List.append_nil, List.getElem?_cons_zero, List.getElem?_cons_succ, Option.getD_some, Option.some.injEq] at hc0
  refine lev_inv (σ := Nat) (fun s => [(0, I n), (1, I k), (2, S cGazette l), (7, .ptr q 0), (8, .bool true), (9, I s)]) (fun s => H) (fun s => 1 ≤ s ∧ s ≤ l.length + 1 ∧ sinceN (goodAt n k F d) l.length 1 = sinceN (goodAt n k F d) (l.length + 1 - s) s) (fun s => l.length + 1 - s) (fun x e' H' => H'.take H.length = H ∧ H.length ≤ H'.length ∧ ((x = .exit 0 ∧ sinceN (goodAt n k F d) l.length 1 = 0) ∨ (x = .ret ∧ e'.get 6 = I (sinceN (goodAt n k F d) l.length 1)))) (1) ?_ ?_ ?_ ?_ ?_
  · exact ⟨Nat.le_refl _, by omega, rfl⟩
  · intro s hs; simp
  · intro s hs; simp [cloEnv, clo, S, lt_of_get hq]
  · intro s hs; subst hc0; simp [keepAt, headId, lookN, Env.keep, Env.get]
  intro s hs
  subst hc0
  obtain ⟨hs1, hs, hi⟩ := hs
  have hp := lt_of_get hq
  by_cases hle : s ≤ l.length
  · have h0 : (s : Int) ≤ (l.length : Int) := by omega
    have hw := wrap_s s (by omega)
    have hf := h15 s hle
    simp only [S, List.map_take] at hf
    rw [show l.length + 1 - s = (l.length + 1 - (s + 1)) + 1 by omega] at hi
    simp only [sinceN] at hi
    have hsx : (s : Int) ≤ ((List.map cGazette l).length : Int) := by simp; omega
    cases hfi : (F s).find? (isE n k) with
    | none =>
      left
      have hgd : goodAt n k F d s = false := by simp [goodAt, hfi]
      rw [hgd] at hi
      exact ⟨s + 1, by simp [↓ev_loop, ev, evOps, evOp, wants, req, reqCall, inOf, evOpd, ofConst, ofCell, hands, Ann.mem, Env.get, Env.set, gives, handT, Op.operands, Call.operands, meet, putD, params, AV.strip, keepAt, lookN, Env.keep, binAV, intBinAV, headId, tidy, flagOp, nilConst, List.filterMap_cons, List.filterMap_nil, outOf, resAll, resOf, reifyR, reify, reifyP, clo, cloL, cloLL, cloEnv, loadBox, storeBox, okPut, buildElems, buildCells, int_beq, int_bne, h0, hw, hf, hfi, found, S, highOf, lowOf, hle, hp], ⟨by omega, by omega, by simpa using hi⟩, by omega⟩
    | some y =>
      have hal := fun bs H => alike36 y d (hwf s y (List.mem_of_find?_eq_some hfi)) bs H
      simp only [alike_eq] at hal
      have hgd : goodAt n k F d s = beqP y d := by simp [goodAt, hfi]
      rw [hgd] at hi
      have hq2 : (H ++ [AO.box (cEI y)])[q]? = some (.box (cEI d)) := by rw [List.getElem?_append_left hp]; exact hq
      by_cases hy : y = d
      · right
        subst hy
        simp only [beqP_self, if_true] at hi
        rw [hi]
        simp [↓ev_loop, ev, evOps, evOp, wants, req, reqCall, inOf, evOpd, ofConst, ofCell, hands, Ann.mem, Env.get, Env.set, gives, handT, Op.operands, Call.operands, meet, putD, params, AV.strip, keepAt, lookN, Env.keep, binAV, intBinAV, headId, tidy, flagOp, nilConst, List.filterMap_cons, List.filterMap_nil, outOf, resAll, resOf, reifyR, reify, reifyP, clo, cloL, cloLL, cloEnv, loadBox, storeBox, okPut, buildElems, buildCells, int_beq, int_bne, h0, hw, hf, hfi, hal, found, S, highOf, lowOf, hle, hp, hq2]
      · left
        rw [beqP_ne hy] at hi
        exact ⟨s + 1, by simp [↓ev_loop, ev, evOps, evOp, wants, req, reqCall, inOf, evOpd, ofConst, ofCell, hands, Ann.mem, Env.get, Env.set, gives, handT, Op.operands, Call.operands, meet, putD, params, AV.strip, keepAt, lookN, Env.keep, binAV, intBinAV, headId, tidy, flagOp, nilConst, List.filterMap_cons, List.filterMap_nil, outOf, resAll, resOf, reifyR, reify, reifyP, clo, cloL, cloLL, cloEnv, loadBox, storeBox, okPut, buildElems, buildCells, int_beq, int_bne, h0, hw, hf, hfi, hal, beqP_ne hy, found, S, highOf, lowOf, hle, hp, hq2], ⟨by omega, by omega, by simpa using hi⟩, by omega⟩
  · right
    have h0 : ¬ (s : Int) ≤ (l.length : Int) := by omega
    rw [show l.length + 1 - s = 0 by omega] at hi
    simp only [sinceN] at hi
    simp [↓ev_loop, ev, evOps, evOp, wants, req, reqCall, inOf, evOpd, ofConst, ofCell, hands, Ann.mem, Env.get, Env.set, gives, handT, Op.operands, Call.operands, meet, putD, params, AV.strip, keepAt, lookN, Env.keep, binAV, intBinAV, headId, tidy, flagOp, nilConst, List.filterMap_cons, List.filterMap_nil, outOf, resAll, resOf, reifyR, reify, reifyP, clo, cloL, cloLL, cloEnv, loadBox, storeBox, okPut, buildElems, buildCells, int_beq, int_bne, h0, S, hi]
theorem since18 (l : List Gazette) (n k : Int) (F : Nat → List EI) (hl : l.length ≤ 10000) (h15 : ∀ j, j ≤ l.length → ∀ bs H, callD X 15 [I n, I k, S cGazette (l.take j)] bs H = some (found n k (F j), H)) (hwf : ∀ j, ∀ y ∈ F j, wfI y.it) (bs : List Nat) (H : List AO) :
    callD X 18 [I n, I k, S cGazette l] bs H = some (I (sinceF n k F l.length), H) := by
  rw [callD_eq]
  simp only [Xprim]
  unfold runBody
  simp only [XP, Try.func18, Xan18, Xok18]
  obtain ⟨c0, hc0⟩ : ∃ c, (loops (Try.f18.body.getD .skip))[0]? = some c := ⟨_, rfl⟩
  have hd0 := hc0
  simp only [Try.f18, loops, List.cons_append, List.nil_append, List.append_nil, List.getElem?_cons_zero, List.getElem?_cons_succ, Option.getD_some, Option.some.injEq] at hd0
  simp only [Try.f18]
  (try rw [hd0])
  have hf := fun bs H => h15 l.length (Nat.le_refl _) bs H
  simp only [S, List.take_length] at hf
  unfold sinceF
  cases hfi : (F l.length).find? (isE n k) with
  | none =>
    have hh : headId c0 = some 3 := by rw [← hd0]; rfl
    have hx : lev Try.prog an18 (callD X) c0 (H.length :: bs) [(0, I n), (1, I k), (2, .slc false (l.map cGazette)), (7, .ptr H.length 0), (8, .bool false), (9, I 1)] (H ++ [.box (cEI zEI)]) = some (.exit 0, [(0, I n), (1, I k), (2, .slc false (l.map cGazette)), (7, .ptr H.length 0), (8, .bool false), (9, I 1), (25, .bool false)], H ++ [.box (cEI zEI)]) := by
      unfold lev
      rw [iterD_eq]
      have hkp : keepAt an18.head (headId c0) [(0, I n), (1, I k), (2, .slc false (l.map cGazette)), (7, .ptr H.length 0), (8, .bool false), (9, I 1)] = [(0, I n), (1, I k), (2, .slc false (l.map cGazette)), (7, .ptr H.length 0), (8, .bool false), (9, I 1)] := by rw [hh]; simp [keepAt, lookN, Env.keep, Env.get]
      rw [hkp, if_pos (by simp [cloEnv, clo]), List.take_length]
      subst hd0
      simp [↓ev_loop, ev, evOps, evOp, wants, req, reqCall, inOf, evOpd, ofConst, ofCell, hands, Ann.mem, Env.get, Env.set, gives, handT, Op.operands, Call.operands, meet, putD, params, AV.strip, keepAt, lookN, Env.keep, binAV, intBinAV, headId, tidy, flagOp, nilConst, List.filterMap_cons, List.filterMap_nil, outOf, resAll, resOf, reifyR, reify, reifyP, clo, cloL, cloLL, cloEnv, loadBox, storeBox, okPut, buildElems, buildCells, int_beq, int_bne]
    simp [↓ev_loop, ev, evOps, evOp, wants, req, reqCall, inOf, evOpd, ofConst, ofCell, hands, Ann.mem, Env.get, Env.set, gives, handT, Op.operands, Call.operands, meet, putD, params, AV.strip, keepAt, lookN, Env.keep, binAV, intBinAV, headId, tidy, flagOp, nilConst, List.filterMap_cons, List.filterMap_nil, outOf, resAll, resOf, reifyR, reify, reifyP, clo, cloL, cloLL, cloEnv, loadBox, storeBox, okPut, buildElems, buildCells, int_beq, int_bne, hf, hfi, found, S, hx]
  | some d =>
    obtain ⟨x, e', H', h1, hH, hH2, h2⟩ := lp18 l n k F H.length d (H.length :: bs) (H ++ [.box (cEI d)]) c0 hc0 hl (by simp) h15 hwf
    simp only [S, List.map_nil, Int.ofNat_eq_natCast, Int.natCast_zero, List.length_append, List.length_cons, List.length_nil, Nat.zero_add, Nat.reduceAdd] at h1
    simp only [show ((1 : Nat) : Int) = 1 from rfl] at h1
    have hH3 : H'.take H.length = H := by
      have := congrArg (List.take H.length) hH
      simp only [List.take_take] at this
      rw [Nat.min_eq_left (by simp)] at this
      simpa using this
    simp at hH2
    have hH4 : H.length ≤ H'.length := by omega
    rcases h2 with ⟨rfl, h3⟩ | ⟨rfl, h3⟩
    · simp [↓ev_loop, ev, evOps, evOp, wants, req, reqCall, inOf, evOpd, ofConst, ofCell, hands, Ann.mem, Env.get, Env.set, gives, handT, Op.operands, Call.operands, meet, putD, params, AV.strip, keepAt, lookN, Env.keep, binAV, intBinAV, headId, tidy, flagOp, nilConst, List.filterMap_cons, List.filterMap_nil, outOf, resAll, resOf, reifyR, reify, reifyP, clo, cloL, cloLL, cloEnv, loadBox, storeBox, okPut, buildElems, buildCells, int_beq, int_bne, h1, h3, hf, hfi, found, S, hH3, hH4]
    · simp [↓ev_loop, ev, evOps, evOp, wants, req, reqCall, inOf, evOpd, ofConst, ofCell, hands, Ann.mem, Env.get, Env.set, gives, handT, Op.operands, Call.operands, meet, putD, params, AV.strip, keepAt, lookN, Env.keep, binAV, intBinAV, headId, tidy, flagOp, nilConst, List.filterMap_cons, List.filterMap_nil, outOf, resAll, resOf, reifyR, reify, reifyP, clo, cloL, cloLL, cloEnv, loadBox, storeBox, okPut, buildElems, buildCells, int_beq, int_bne, h1, h3, hf, hfi, found, S, hH3, hH4]

theorem lp19 (l : List Gazette) (n k : Int) (F : Nat → List EI) (q : Nat) (d : EI) (bs : List Nat) (H : List AO) (c0 : Code) (hc0 : (loops (Try.f19.body.getD .skip))[0]? = some c0) (hl : l.length ≤ 10000) (hq : H[q]? = some (.box (cEI d))) (h15 : ∀ j, j ≤ l.length → ∀ bs H, callD X 16 [I n, I k, S cGazette (l.take j)] bs H = some (found n k (F j), H)) (hwf : ∀ j, ∀ y ∈ F j, wfI y.it) :
    ∃ x e' H', lev Try.prog an19 (callD X) c0 bs ((fun s : Nat => [(0, I n), (1, I k), (2, S cGazette l), (7, .ptr q 0), (9, I s)]) (1)) ((fun s : Nat => H) (1)) = some (x, e', H') ∧ (H'.take H.length = H ∧ H.length ≤ H'.length ∧ ((x = .exit 0 ∧ sinceN (goodAt n k F d) l.length 1 = 0) ∨ (x = .ret ∧ e'.get 6 = I (sinceN (goodAt n k F d) l.length 1)))) := by
  simp only [Try.f19, loops, List.cons_append, List.nil_append, List.append_nil, List.getElem?_cons_zero, List.getElem?_cons_succ, Option.getD_some, Option.some.injEq] at hc0
  refine lev_inv (σ := Nat) (fun s => [(0, I n), (1, I k), (2, S cGazette l), (7, .ptr q 0), (9, I s)]) (fun s => H) (fun s => 1 ≤ s ∧ s ≤ l.length + 1 ∧ sinceN (goodAt n k F d) l.length 1 = sinceN (goodAt n k F d) (l.length + 1 - s) s) (fun s => l.length + 1 - s) (fun x e' H' => H'.take H.length = H ∧ H.length ≤ H'.length ∧ ((x = .exit 0 ∧ sinceN (goodAt n k F d) l.length 1 = 0) ∨ (x = .ret ∧ e'.get 6 = I (sinceN (goodAt n k F d) l.length 1)))) (1) ?_ ?_ ?_ ?_ ?_
  · exact ⟨Nat.le_refl _, by omega, rfl⟩
  · intro s hs; simp
  · intro s hs; simp [cloEnv, clo, S, lt_of_get hq]
  · intro s hs; subst hc0; simp [keepAt, headId, lookN, Env.keep, Env.get]
  intro s hs
  subst hc0
  obtain ⟨hs1, hs, hi⟩ := hs
  have hp := lt_of_get hq
  by_cases hle : s ≤ l.length
  · have h0 : (s : Int) ≤ (l.length : Int) := by omega
    have hw := wrap_s s (by omega)
    have hf := h15 s hle
    simp only [S, List.map_take] at hf
    rw [show l.length + 1 - s = (l.length + 1 - (s + 1)) + 1 by omega] at hi
    simp only [sinceN] at hi
    cases hfi : (F s).find? (isE n k) with
    | none =>
      left
      have hgd : goodAt n k F d s = false := by simp [goodAt, hfi]
      rw [hgd] at hi
      exact ⟨s + 1, by simp [↓ev_loop, ev, evOps, evOp, wants, req, reqCall, inOf, evOpd, ofConst, ofCell, hands, Ann.mem, Env.get, Env.set, gives, handT, Op.operands, Call.operands, meet, putD, params, AV.strip, keepAt, lookN, Env.keep, binAV, intBinAV, headId, tidy, flagOp, nilConst, List.filterMap_cons, List.filterMap_nil, outOf, resAll, resOf, reifyR, reify, reifyP, clo, cloL, cloLL, cloEnv, loadBox, storeBox, okPut, buildElems, buildCells, int_beq, int_bne, h0, hw, hf, hfi, found, S, highOf, lowOf, hle, hp], ⟨by omega, by omega, by simpa using hi⟩, by omega⟩
    | some y =>
      have hal := fun bs H => eq17 y d (hwf s y (List.mem_of_find?_eq_some hfi)) bs H
      have hgd : goodAt n k F d s = beqP y d := by simp [goodAt, hfi]
      rw [hgd] at hi
      have hq2 : (H ++ [AO.box (cEI y)])[q]? = some (.box (cEI d)) := by rw [List.getElem?_append_left hp]; exact hq
      by_cases hy : y = d
      · right
        subst hy
        simp only [beqP_self, if_true] at hi
        rw [hi]
        simp [↓ev_loop, ev, evOps, evOp, wants, req, reqCall, inOf, evOpd, ofConst, ofCell, hands, Ann.mem, Env.get, Env.set, gives, handT, Op.operands, Call.operands, meet, putD, params, AV.strip, keepAt, lookN, Env.keep, binAV, intBinAV, headId, tidy, flagOp, nilConst, List.filterMap_cons, List.filterMap_nil, outOf, resAll, resOf, reifyR, reify, reifyP, clo, cloL, cloLL, cloEnv, loadBox, storeBox, okPut, buildElems, buildCells, int_beq, int_bne, h0, hw, hf, hfi, hal, found, S, highOf, lowOf, hle, hp, hq2]
      · left
        rw [beqP_ne hy] at hi
        exact ⟨s + 1, by simp [↓ev_loop, ev, evOps, evOp, wants, req, reqCall, inOf, evOpd, ofConst, ofCell, hands, Ann.mem, Env.get, Env.set, gives, handT, Op.operands, Call.operands, meet, putD, params, AV.strip, keepAt, lookN, Env.keep, binAV, intBinAV, headId, tidy, flagOp, nilConst, List.filterMap_cons, List.filterMap_nil, outOf, resAll, resOf, reifyR, reify, reifyP, clo, cloL, cloLL, cloEnv, loadBox, storeBox, okPut, buildElems, buildCells, int_beq, int_bne, h0, hw, hf, hfi, hal, beqP_ne hy, found, S, highOf, lowOf, hle, hp, hq2], ⟨by omega, by omega, by simpa using hi⟩, by omega⟩
  · right
    have h0 : ¬ (s : Int) ≤ (l.length : Int) := by omega
    rw [show l.length + 1 - s = 0 by omega] at hi
    simp only [sinceN] at hi
    simp [↓ev_loop, ev, evOps, evOp, wants, req, reqCall, inOf, evOpd, ofConst, ofCell, hands, Ann.mem, Env.get, Env.set, gives, handT, Op.operands, Call.operands, meet, putD, params, AV.strip, keepAt, lookN, Env.keep, binAV, intBinAV, headId, tidy, flagOp, nilConst, List.filterMap_cons, List.filterMap_nil, outOf, resAll, resOf, reifyR, reify, reifyP, clo, cloL, cloLL, cloEnv, loadBox, storeBox, okPut, buildElems, buildCells, int_beq, int_bne, h0, S, hi]
theorem since19 (l : List Gazette) (n k : Int) (F : Nat → List EI) (hl : l.length ≤ 10000) (h15 : ∀ j, j ≤ l.length → ∀ bs H, callD X 16 [I n, I k, S cGazette (l.take j)] bs H = some (found n k (F j), H)) (hwf : ∀ j, ∀ y ∈ F j, wfI y.it) (bs : List Nat) (H : List AO) :
    callD X 19 [I n, I k, S cGazette l] bs H = some (I (sinceF n k F l.length), H) := by
  rw [callD_eq]
  simp only [Xprim]
  unfold runBody
  simp only [XP, Try.func19, Xan19, Xok19]
  obtain ⟨c0, hc0⟩ : ∃ c, (loops (Try.f19.body.getD .skip))[0]? = some c := ⟨_, rfl⟩
  have hd0 := hc0
  simp only [Try.f19, loops, List.cons_append, List.nil_append, List.append_nil, List.getElem?_cons_zero, List.getElem?_cons_succ, Option.getD_some, Option.some.injEq] at hd0
  simp only [Try.f19]
  (try rw [hd0])
  have hf := fun bs H => h15 l.length (Nat.le_refl _) bs H
  simp only [S, List.take_length] at hf
  unfold sinceF
  cases hfi : (F l.length).find? (isE n k) with
  | none => simp [↓ev_loop, ev, evOps, evOp, wants, req, reqCall, inOf, evOpd, ofConst, ofCell, hands, Ann.mem, Env.get, Env.set, gives, handT, Op.operands, Call.operands, meet, putD, params, AV.strip, keepAt, lookN, Env.keep, binAV, intBinAV, headId, tidy, flagOp, nilConst, List.filterMap_cons, List.filterMap_nil, outOf, resAll, resOf, reifyR, reify, reifyP, clo, cloL, cloLL, cloEnv, loadBox, storeBox, okPut, buildElems, buildCells, int_beq, int_bne, hf, hfi, found, S]
  | some d =>
    obtain ⟨x, e', H', h1, hH, hH2, h2⟩ := lp19 l n k F H.length d (H.length :: bs) (H ++ [.box (cEI d)]) c0 hc0 hl (by simp) h15 hwf
    simp only [S, List.map_nil, Int.ofNat_eq_natCast, Int.natCast_zero, List.length_append, List.length_cons, List.length_nil, Nat.zero_add, Nat.reduceAdd] at h1
    simp only [show ((1 : Nat) : Int) = 1 from rfl] at h1
    have hH3 : H'.take H.length = H := by
      have := congrArg (List.take H.length) hH
      simp only [List.take_take] at this
      rw [Nat.min_eq_left (by simp)] at this
      simpa using this
    simp at hH2
    have hH4 : H.length ≤ H'.length := by omega
    rcases h2 with ⟨rfl, h3⟩ | ⟨rfl, h3⟩
    · simp [↓ev_loop, ev, evOps, evOp, wants, req, reqCall, inOf, evOpd, ofConst, ofCell, hands, Ann.mem, Env.get, Env.set, gives, handT, Op.operands, Call.operands, meet, putD, params, AV.strip, keepAt, lookN, Env.keep, binAV, intBinAV, headId, tidy, flagOp, nilConst, List.filterMap_cons, List.filterMap_nil, outOf, resAll, resOf, reifyR, reify, reifyP, clo, cloL, cloLL, cloEnv, loadBox, storeBox, okPut, buildElems, buildCells, int_beq, int_bne, h1, h3, hf, hfi, found, S, hH3, hH4]
    · simp [↓ev_loop, ev, evOps, evOp, wants, req, reqCall, inOf, evOpd, ofConst, ofCell, hands, Ann.mem, Env.get, Env.set, gives, handT, Op.operands, Call.operands, meet, putD, params, AV.strip, keepAt, lookN, Env.keep, binAV, intBinAV, headId, tidy, flagOp, nilConst, List.filterMap_cons, List.filterMap_nil, outOf, resAll, resOf, reifyR, reify, reifyP, clo, cloL, cloLL, cloEnv, loadBox, storeBox, okPut, buildElems, buildCells, int_beq, int_bne, h1, h3, hf, hfi, found, S, hH3, hH4]

/-! by day -/
def byDay (d : Int) (l : List Gazette) : Nat := (l.takeWhile fun g => decide (g.day ≤ d)).length
theorem is38 (d : Int) (g : Gazette) (a : Nat) (bs : List Nat) (H : List AO) (ha : H[a]? = some (.box [I d])) :
    callD X 38 [.agg (cGazette g), .ptr a 0] bs H = some (.bool (decide (d < g.day)), H) := by
  rw [callD_eq]
  simp only [Xprim]
  unfold runBody
  simp only [XP, Try.func38, Xan38, Xok38]
  have ha' : (H ++ [.box (cGazette g)])[a]? = some (.box [I d]) := by rw [List.getElem?_append_left (lt_of_get ha)]; exact ha
  have hr : ∀ n, readCells Try.prog 3 [I n] 0 = some (I n) := fun n => r3_0_3 n
  simp [Try.f38, ↓ev_loop, ev, evOps, evOp, wants, req, reqCall, inOf, evOpd, ofConst, ofCell, hands, Ann.mem, Env.get, Env.set, gives, handT, Op.operands, Call.operands, meet, putD, params, AV.strip, keepAt, lookN, Env.keep, binAV, intBinAV, headId, tidy, flagOp, nilConst, List.filterMap_cons, List.filterMap_nil, outOf, resAll, resOf, reifyR, reify, reifyP, clo, cloL, cloLL, cloEnv, loadBox, storeBox, okPut, buildElems, buildCells, int_beq, int_bne, ha', hr]

theorem lp37 (l : List Gazette) (d : Int) (a : Nat) (bs : List Nat) (H : List AO) (c0 : Code) (hc0 : (loops (Try.f37.body.getD .skip))[0]? = some c0) (hl : l.length ≤ 4000000000000000000) (ha : H[a]? = some (.box [I d])) :
    ∃ x e' H', lev Try.prog an37 (callD X) c0 bs ((fun s : Nat => [(0, S cGazette l), (1, .func 38 [] [.ptr a 0]), (7, I l.length), (8, I s)]) (0)) ((fun s : Nat => H) (0)) = some (x, e', H') ∧ (H' = H ∧ ((x = .exit 0 ∧ idxF (fun g => decide (d < g.day)) l 0 = -1) ∨ (x = .ret ∧ e'.get 4 = I (idxF (fun g => decide (d < g.day)) l 0)))) := by
  simp only [Try.f37, loops, List.cons_append, List.nil_append, List.append_nil, List.getElem?_cons_zero, List.getElem?_cons_succ, Option.getD_some, Option.some.injEq] at hc0
  refine lev_inv (σ := Nat) (fun s => [(0, S cGazette l), (1, .func 38 [] [.ptr a 0]), (7, I l.length), (8, I s)]) (fun s => H) (fun s => s ≤ l.length ∧ idxF (fun g => decide (d < g.day)) l 0 = idxF (fun g => decide (d < g.day)) (l.drop s) s) (fun s => l.length - s) (fun x e' H' => H' = H ∧ ((x = .exit 0 ∧ idxF (fun g => decide (d < g.day)) l 0 = -1) ∨ (x = .ret ∧ e'.get 4 = I (idxF (fun g => decide (d < g.day)) l 0)))) (0) ?_ ?_ ?_ ?_ ?_
  · simp
  · intro s hs; simp
  · intro s hs; simp [cloEnv, clo, cloL, S, lt_of_get ha]
  · intro s hs; subst hc0; simp [keepAt, headId, lookN, Env.keep, Env.get]
  intro s hs
  subst hc0
  obtain ⟨hs, hi⟩ := hs
  have hpa := lt_of_get ha
  rcases Nat.lt_or_ge s l.length with hlt | hge
  · have h0 : (s : Int) < (l.length : Int) := by omega
    have hw := wrap_s s (by omega)
    have hg : l[s]? = some l[s] := by simp [hlt]
    rw [List.drop_eq_getElem_cons hlt] at hi
    have hq := fun bs => is38 d l[s] a bs H ha
    generalize l[s] = g at hg hi hq
    by_cases hv : d < g.day
    · right
      have hi2 : idxF (fun g => decide (d < g.day)) l 0 = s := by simpa [idxF, hv] using hi
      simp [↓ev_loop, ev, evOps, evOp, wants, req, reqCall, inOf, evOpd, ofConst, ofCell, hands, Ann.mem, Env.get, Env.set, gives, handT, Op.operands, Call.operands, meet, putD, params, AV.strip, keepAt, lookN, Env.keep, binAV, intBinAV, headId, tidy, flagOp, nilConst, List.filterMap_cons, List.filterMap_nil, outOf, resAll, resOf, reifyR, reify, reifyP, clo, cloL, cloLL, cloEnv, loadBox, storeBox, okPut, buildElems, buildCells, int_beq, int_bne, h0, hw, hg, hq, hv, S, hi2]
    · left
      exact ⟨s + 1, by simp [↓ev_loop, ev, evOps, evOp, wants, req, reqCall, inOf, evOpd, ofConst, ofCell, hands, Ann.mem, Env.get, Env.set, gives, handT, Op.operands, Call.operands, meet, putD, params, AV.strip, keepAt, lookN, Env.keep, binAV, intBinAV, headId, tidy, flagOp, nilConst, List.filterMap_cons, List.filterMap_nil, outOf, resAll, resOf, reifyR, reify, reifyP, clo, cloL, cloLL, cloEnv, loadBox, storeBox, okPut, buildElems, buildCells, int_beq, int_bne, h0, hw, hg, hq, hv, S], ⟨hlt, by simpa [idxF, hv] using hi⟩, by omega⟩
  · right
    have h0 : ¬ (s : Int) < (l.length : Int) := by omega
    rw [List.drop_of_length_le hge] at hi
    simp [↓ev_loop, ev, evOps, evOp, wants, req, reqCall, inOf, evOpd, ofConst, ofCell, hands, Ann.mem, Env.get, Env.set, gives, handT, Op.operands, Call.operands, meet, putD, params, AV.strip, keepAt, lookN, Env.keep, binAV, intBinAV, headId, tidy, flagOp, nilConst, List.filterMap_cons, List.filterMap_nil, outOf, resAll, resOf, reifyR, reify, reifyP, clo, cloL, cloLL, cloEnv, loadBox, storeBox, okPut, buildElems, buildCells, int_beq, int_bne, h0, S]; exact hi
theorem idx37 (l : List Gazette) (d : Int) (a : Nat) (hl : l.length ≤ 4000000000000000000) (bs : List Nat) (H : List AO) (ha : H[a]? = some (.box [I d])) :
    callD X 37 [S cGazette l, .func 38 [] [.ptr a 0]] bs H = some (I (idxF (fun g => decide (d < g.day)) l 0), H) := by
  rw [callD_eq]
  simp only [Xprim]
  unfold runBody
  simp only [XP, Try.func37, Xan37, Xok37]
  obtain ⟨c0, hc0⟩ : ∃ c, (loops (Try.f37.body.getD .skip))[0]? = some c := ⟨_, rfl⟩
  have hd0 := hc0
  simp only [Try.f37, loops, List.cons_append, List.nil_append, List.append_nil, List.getElem?_cons_zero, List.getElem?_cons_succ, Option.getD_some, Option.some.injEq] at hd0
  simp only [Try.f37]
  (try rw [hd0])
  obtain ⟨x, e', H', h1, rfl, h2⟩ := lp37 l d a (H.length :: bs) H c0 hc0 hl ha
  simp only [S, List.map_nil, Int.ofNat_eq_natCast, Int.natCast_zero, List.length_append, List.length_cons, List.length_nil, Nat.zero_add, Nat.reduceAdd] at h1
  rcases h2 with ⟨rfl, h3⟩ | ⟨rfl, h3⟩
  · simp [↓ev_loop, ev, evOps, evOp, wants, req, reqCall, inOf, evOpd, ofConst, ofCell, hands, Ann.mem, Env.get, Env.set, gives, handT, Op.operands, Call.operands, meet, putD, params, AV.strip, keepAt, lookN, Env.keep, binAV, intBinAV, headId, tidy, flagOp, nilConst, List.filterMap_cons, List.filterMap_nil, outOf, resAll, resOf, reifyR, reify, reifyP, clo, cloL, cloLL, cloEnv, loadBox, storeBox, okPut, buildElems, buildCells, int_beq, int_bne, h1, h3, S]
  · simp [↓ev_loop, ev, evOps, evOp, wants, req, reqCall, inOf, evOpd, ofConst, ofCell, hands, Ann.mem, Env.get, Env.set, gives, handT, Op.operands, Call.operands, meet, putD, params, AV.strip, keepAt, lookN, Env.keep, binAV, intBinAV, headId, tidy, flagOp, nilConst, List.filterMap_cons, List.filterMap_nil, outOf, resAll, resOf, reifyR, reify, reifyP, clo, cloL, cloLL, cloEnv, loadBox, storeBox, okPut, buildElems, buildCells, int_beq, int_bne, h1, h3, S]
theorem idx_by (d : Int) (l : List Gazette) : ∀ i, (if idxF (fun g => decide (d < g.day)) l i < 0 then ((i + l.length : Nat) : Int) else idxF (fun g => decide (d < g.day)) l i) = ((i + byDay d l : Nat) : Int) := by
  induction l with
  | nil => intro i; simp [idxF, byDay]
  | cons g r ih =>
    intro i
    by_cases h : d < g.day
    · have : ¬ g.day ≤ d := by omega
      simp [idxF, byDay, h, this]
      intro h2; omega
    · have h3 : g.day ≤ d := by omega
      have := ih (i + 1)
      simp only [idxF, h, decide_false, Bool.false_eq_true, if_false]
      simp only [byDay, h3, List.takeWhile_cons, decide_true, if_true, List.length_cons] at this ⊢
      rw [show i + (r.length + 1) = i + 1 + r.length by omega, this]; congr 1; omega
theorem by20 (l : List Gazette) (d : Int) (hl : l.length ≤ 4000000000000000000) (bs : List Nat) (H : List AO) : callD X 20 [I d, S cGazette l] bs H = some (I (byDay d l), H) := by
  rw [callD_eq]
  simp only [Xprim]
  unfold runBody
  simp only [XP, Try.func20, Xan20, Xok20]
  have hx := fun bs ha => idx37 l d H.length hl bs (H ++ [.box [I d]]) ha
  have hx := fun bs => hx bs (by simp)
  simp only [S] at hx
  have hb := idx_by d l 0
  simp only [Nat.zero_add] at hb
  rw [← hb]
  by_cases h : idxF (fun g => decide (d < g.day)) l 0 < 0
  · simp [Try.f20, ↓ev_loop, ev, evOps, evOp, wants, req, reqCall, inOf, evOpd, ofConst, ofCell, hands, Ann.mem, Env.get, Env.set, gives, handT, Op.operands, Call.operands, meet, putD, params, AV.strip, keepAt, lookN, Env.keep, binAV, intBinAV, headId, tidy, flagOp, nilConst, List.filterMap_cons, List.filterMap_nil, outOf, resAll, resOf, reifyR, reify, reifyP, clo, cloL, cloLL, cloEnv, loadBox, storeBox, okPut, buildElems, buildCells, int_beq, int_bne, S, hx, h]
  · simp [Try.f20, ↓ev_loop, ev, evOps, evOp, wants, req, reqCall, inOf, evOpd, ofConst, ofCell, hands, Ann.mem, Env.get, Env.set, gives, handT, Op.operands, Call.operands, meet, putD, params, AV.strip, keepAt, lookN, Env.keep, binAV, intBinAV, headId, tidy, flagOp, nilConst, List.filterMap_cons, List.filterMap_nil, outOf, resAll, resOf, reifyR, reify, reifyP, clo, cloL, cloLL, cloEnv, loadBox, storeBox, okPut, buildElems, buildCells, int_beq, int_bne, S, hx, h]

theorem lp21 (l : List Gazette) (d : Int) (bs : List Nat) (H : List AO) (c0 : Code) (hc0 : (loops (Try.f21.body.getD .skip))[0]? = some c0) (hl : l.length ≤ 4000000000000000000) :
    ∃ x e' H', lev Try.prog an21 (callD X) c0 bs ((fun s : Nat => [(0, I d), (1, S cGazette l), (5, I s)]) (0)) ((fun s : Nat => H) (0)) = some (x, e', H') ∧ (H' = H ∧ x = .exit 0 ∧ e'.get 5 = I (byDay d l)) := by
  simp only [Try.f21, loops, List.cons_append, List.nil_append, List.append_nil, List.getElem?_cons_zero, List.getElem?_cons_succ, Option.getD_some, Option.some.injEq] at hc0
  refine lev_inv (σ := Nat) (fun s => [(0, I d), (1, S cGazette l), (5, I s)]) (fun s => H) (fun s => s ≤ l.length ∧ byDay d l = s + byDay d (l.drop s)) (fun s => l.length - s) (fun x e' H' => H' = H ∧ x = .exit 0 ∧ e'.get 5 = I (byDay d l)) (0) ?_ ?_ ?_ ?_ ?_
  · simp
  · intro s hs; simp
  · intro s hs; simp [cloEnv, clo, cloL, S]
  · intro s hs; subst hc0; simp [keepAt, headId, lookN, Env.keep, Env.get]
  intro s hs
  subst hc0
  obtain ⟨hs, hi⟩ := hs
  rcases Nat.lt_or_ge s l.length with hlt | hge
  · have h0 : (s : Int) < (l.length : Int) := by omega
    have hw := wrap_s s (by omega)
    have hg : l[s]? = some l[s] := by simp [hlt]
    rw [List.drop_eq_getElem_cons hlt] at hi
    generalize l[s] = g at hg hi
    by_cases hv : g.day ≤ d
    · left
      refine ⟨s + 1, by simp [↓ev_loop, ev, evOps, evOp, wants, req, reqCall, inOf, evOpd, ofConst, ofCell, hands, Ann.mem, Env.get, Env.set, gives, handT, Op.operands, Call.operands, meet, putD, params, AV.strip, keepAt, lookN, Env.keep, binAV, intBinAV, headId, tidy, flagOp, nilConst, List.filterMap_cons, List.filterMap_nil, outOf, resAll, resOf, reifyR, reify, reifyP, clo, cloL, cloLL, cloEnv, loadBox, storeBox, okPut, buildElems, buildCells, int_beq, int_bne, h0, hw, hg, hv, S], ⟨hlt, ?_⟩, by omega⟩
      rw [hi]; simp only [byDay, List.takeWhile_cons, hv, decide_true, if_true, List.length_cons]; omega
    · right
      have hi2 : byDay d l = s := by rw [hi]; simp [byDay, hv]
      simp [↓ev_loop, ev, evOps, evOp, wants, req, reqCall, inOf, evOpd, ofConst, ofCell, hands, Ann.mem, Env.get, Env.set, gives, handT, Op.operands, Call.operands, meet, putD, params, AV.strip, keepAt, lookN, Env.keep, binAV, intBinAV, headId, tidy, flagOp, nilConst, List.filterMap_cons, List.filterMap_nil, outOf, resAll, resOf, reifyR, reify, reifyP, clo, cloL, cloLL, cloEnv, loadBox, storeBox, okPut, buildElems, buildCells, int_beq, int_bne, h0, hw, hg, hv, S, hi2]
  · right
    have h0 : ¬ (s : Int) < (l.length : Int) := by omega
    have hi2 : byDay d l = s := by rw [hi, List.drop_of_length_le hge]; simp [byDay]
    simp [↓ev_loop, ev, evOps, evOp, wants, req, reqCall, inOf, evOpd, ofConst, ofCell, hands, Ann.mem, Env.get, Env.set, gives, handT, Op.operands, Call.operands, meet, putD, params, AV.strip, keepAt, lookN, Env.keep, binAV, intBinAV, headId, tidy, flagOp, nilConst, List.filterMap_cons, List.filterMap_nil, outOf, resAll, resOf, reifyR, reify, reifyP, clo, cloL, cloLL, cloEnv, loadBox, storeBox, okPut, buildElems, buildCells, int_beq, int_bne, h0, S, hi2]
theorem by21 (l : List Gazette) (d : Int) (hl : l.length ≤ 4000000000000000000) (bs : List Nat) (H : List AO) : callD X 21 [I d, S cGazette l] bs H = some (I (byDay d l), H) := by
  rw [callD_eq]
  simp only [Xprim]
  unfold runBody
  simp only [XP, Try.func21, Xan21, Xok21]
  obtain ⟨c0, hc0⟩ : ∃ c, (loops (Try.f21.body.getD .skip))[0]? = some c := ⟨_, rfl⟩
  have hd0 := hc0
  simp only [Try.f21, loops, List.cons_append, List.nil_append, List.append_nil, List.getElem?_cons_zero, List.getElem?_cons_succ, Option.getD_some, Option.some.injEq] at hd0
  simp only [Try.f21]
  (try rw [hd0])
  obtain ⟨x, e', H', h1, rfl, rfl, h3⟩ := lp21 l d (H.length :: bs) H c0 hc0 hl
  simp only [S, List.map_nil, Int.ofNat_eq_natCast, Int.natCast_zero, List.length_append, List.length_cons, List.length_nil, Nat.zero_add, Nat.reduceAdd] at h1
  simp [↓ev_loop, ev, evOps, evOp, wants, req, reqCall, inOf, evOpd, ofConst, ofCell, hands, Ann.mem, Env.get, Env.set, gives, handT, Op.operands, Call.operands, meet, putD, params, AV.strip, keepAt, lookN, Env.keep, binAV, intBinAV, headId, tidy, flagOp, nilConst, List.filterMap_cons, List.filterMap_nil, outOf, resAll, resOf, reifyR, reify, reifyP, clo, cloL, cloLL, cloEnv, loadBox, storeBox, okPut, buildElems, buildCells, int_beq, int_bne, h1, h3, S]
end Go.Proofs.Ytlpilgnjlnepeaa.T
namespace Go.Proofs.Ytlpilgnjlnepeaa.T
open Go.VM Go.Proofs
set_option linter.unusedSimpArgs false
set_option maxHeartbeats 16000000
set_option maxRecDepth 10000

theorem lp46 (l : List Act) (n : Int) (bs : List Nat) (H : List AO) (c0 : Code) (hc0 : (loops (Try.f46.body.getD .skip))[0]? = some c0) (hl : l.length ≤ 4000000000000000000) :
    ∃ x e' H', lev Try.prog an46 (callD X) c0 bs ((fun s : Nat => [(0, S cAct l), (1, I n), (5, I s)]) (0)) ((fun s : Nat => H) (0)) = some (x, e', H') ∧ (H' = H ∧ ((x = .exit 0 ∧ idxF (fun a => decide (a.number = n)) l 0 = -1) ∨ (x = .ret ∧ e'.get 4 = I (idxF (fun a => decide (a.number = n)) l 0)))) := by
  simp only [Try.f46, loops, List.cons_append, List.nil_append, List.append_nil, List.getElem?_cons_zero, List.getElem?_cons_succ, Option.getD_some, Option.some.injEq] at hc0
  refine lev_inv (σ := Nat) (fun s => [(0, S cAct l), (1, I n), (5, I s)]) (fun s => H) (fun s => s ≤ l.length ∧ idxF (fun a => decide (a.number = n)) l 0 = idxF (fun a => decide (a.number = n)) (l.drop s) s) (fun s => l.length - s) (fun x e' H' => H' = H ∧ ((x = .exit 0 ∧ idxF (fun a => decide (a.number = n)) l 0 = -1) ∨ (x = .ret ∧ e'.get 4 = I (idxF (fun a => decide (a.number = n)) l 0)))) (0) ?_ ?_ ?_ ?_ ?_
  · simp
  · intro s hs; simp
  · intro s hs; simp [cloEnv, clo, cloL, S]
  · intro s hs; subst hc0; simp [keepAt, headId, lookN, Env.keep, Env.get]
  intro s hs
  subst hc0
  obtain ⟨hs, hi⟩ := hs
  rcases Nat.lt_or_ge s l.length with hlt | hge
  · have h0 : (s : Int) < (l.length : Int) := by omega
    have hw := wrap_s s (by omega)
    have hg : l[s]? = some l[s] := by simp [hlt]
    rw [List.drop_eq_getElem_cons hlt] at hi
    generalize l[s] = g at hg hi
    by_cases hv : g.number = n
    · right
      have hi2 : idxF (fun a => decide (a.number = n)) l 0 = s := by simpa [idxF, hv] using hi
      simp [↓ev_loop, ev, evOps, evOp, wants, req, reqCall, inOf, evOpd, ofConst, ofCell, hands, Ann.mem, Env.get, Env.set, gives, handT, Op.operands, Call.operands, meet, putD, params, AV.strip, keepAt, lookN, Env.keep, binAV, intBinAV, headId, tidy, flagOp, nilConst, List.filterMap_cons, List.filterMap_nil, outOf, resAll, resOf, reifyR, reify, reifyP, clo, cloL, cloLL, cloEnv, loadBox, storeBox, okPut, buildElems, buildCells, int_beq, int_bne, h0, hw, hg, hv, S, hi2]
    · left
      exact ⟨s + 1, by simp [↓ev_loop, ev, evOps, evOp, wants, req, reqCall, inOf, evOpd, ofConst, ofCell, hands, Ann.mem, Env.get, Env.set, gives, handT, Op.operands, Call.operands, meet, putD, params, AV.strip, keepAt, lookN, Env.keep, binAV, intBinAV, headId, tidy, flagOp, nilConst, List.filterMap_cons, List.filterMap_nil, outOf, resAll, resOf, reifyR, reify, reifyP, clo, cloL, cloLL, cloEnv, loadBox, storeBox, okPut, buildElems, buildCells, int_beq, int_bne, h0, hw, hg, hv, S], ⟨hlt, by simpa [idxF, hv] using hi⟩, by omega⟩
  · right
    have h0 : ¬ (s : Int) < (l.length : Int) := by omega
    rw [List.drop_of_length_le hge] at hi
    simp [↓ev_loop, ev, evOps, evOp, wants, req, reqCall, inOf, evOpd, ofConst, ofCell, hands, Ann.mem, Env.get, Env.set, gives, handT, Op.operands, Call.operands, meet, putD, params, AV.strip, keepAt, lookN, Env.keep, binAV, intBinAV, headId, tidy, flagOp, nilConst, List.filterMap_cons, List.filterMap_nil, outOf, resAll, resOf, reifyR, reify, reifyP, clo, cloL, cloLL, cloEnv, loadBox, storeBox, okPut, buildElems, buildCells, int_beq, int_bne, h0, S]; exact hi
theorem first46 (l : List Act) (n : Int) (hl : l.length ≤ 4000000000000000000) (bs : List Nat) (H : List AO) : callD X 46 [S cAct l, I n] bs H = some (I (idxF (fun a => decide (a.number = n)) l 0), H) := by
  rw [callD_eq]
  simp only [Xprim]
  unfold runBody
  simp only [XP, Try.func46, Xan46, Xok46]
  obtain ⟨c0, hc0⟩ : ∃ c, (loops (Try.f46.body.getD .skip))[0]? = some c := ⟨_, rfl⟩
  have hd0 := hc0
  simp only [Try.f46, loops, List.cons_append, List.nil_append, List.append_nil, List.getElem?_cons_zero, List.getElem?_cons_succ, Option.getD_some, Option.some.injEq] at hd0
  simp only [Try.f46]
  (try rw [hd0])
  obtain ⟨x, e', H', h1, rfl, h2⟩ := lp46 l n (H.length :: bs) H c0 hc0 hl
  simp only [S, List.map_nil, Int.ofNat_eq_natCast, Int.natCast_zero, List.length_append, List.length_cons, List.length_nil, Nat.zero_add, Nat.reduceAdd] at h1
  rcases h2 with ⟨rfl, h3⟩ | ⟨rfl, h3⟩
  · simp [↓ev_loop, ev, evOps, evOp, wants, req, reqCall, inOf, evOpd, ofConst, ofCell, hands, Ann.mem, Env.get, Env.set, gives, handT, Op.operands, Call.operands, meet, putD, params, AV.strip, keepAt, lookN, Env.keep, binAV, intBinAV, headId, tidy, flagOp, nilConst, List.filterMap_cons, List.filterMap_nil, outOf, resAll, resOf, reifyR, reify, reifyP, clo, cloL, cloLL, cloEnv, loadBox, storeBox, okPut, buildElems, buildCells, int_beq, int_bne, h1, h3, S]
  · simp [↓ev_loop, ev, evOps, evOp, wants, req, reqCall, inOf, evOpd, ofConst, ofCell, hands, Ann.mem, Env.get, Env.set, gives, handT, Op.operands, Call.operands, meet, putD, params, AV.strip, keepAt, lookN, Env.keep, binAV, intBinAV, headId, tidy, flagOp, nilConst, List.filterMap_cons, List.filterMap_nil, outOf, resAll, resOf, reifyR, reify, reifyP, clo, cloL, cloLL, cloEnv, loadBox, storeBox, okPut, buildElems, buildCells, int_beq, int_bne, h1, h3, S]
theorem idxF_app {α : Type} (p : α → Bool) (xs ys : List α) : ∀ k, idxF p (xs ++ ys) k = if xs.any p = true then idxF p xs k else idxF p ys (k + xs.length) := by
  induction xs with
  | nil => intro k; simp
  | cons x xs ih =>
    intro k
    by_cases h : p x = true
    · simp [idxF, h]
    · simp only [List.cons_append, idxF, h, ih, List.any_cons, Bool.false_or, List.length_cons]
      rw [show k + 1 + xs.length = k + (xs.length + 1) by omega]
      rfl
theorem idxF_lt {α : Type} (p : α → Bool) (xs : List α) (h : xs.any p = true) : ∀ k : Nat, idxF p xs k < k + xs.length := by
  induction xs with
  | nil => simp at h
  | cons x xs ih =>
    intro k
    by_cases hx : p x = true
    · simp [idxF, hx]; omega
    · simp only [List.any_cons, hx, Bool.false_or] at h
      have := ih h (k + 1)
      simp only [idxF, hx]; simp; omega
/-- The acts whose number did not occur before. -/
def firsts (pre : List Act) : List Act → List Act
  | [] => []
  | a :: r => if pre.any (fun b => decide (b.number = a.number)) = true then firsts (pre ++ [a]) r else a :: firsts (pre ++ [a]) r
theorem firsts_app (xs : List Act) (a : Act) : ∀ pre, firsts pre (xs ++ [a]) = firsts pre xs ++ (if (pre ++ xs).any (fun b => decide (b.number = a.number)) = true then [] else [a]) := by
  induction xs with
  | nil => intro pre; simp [firsts]
  | cons x xs ih =>
    intro pre
    simp only [List.cons_append, firsts, ih, List.append_assoc, List.cons_append, List.nil_append]
    split <;> simp
theorem is_first (row : List Act) (i : Nat) (h : i < row.length) : (idxF (fun a => decide (a.number = row[i].number)) row 0 = i) ↔ ¬ (row.take i).any (fun b => decide (b.number = row[i].number)) = true := by
  have h1 : row = row.take i ++ row[i] :: row.drop (i + 1) := by rw [← List.drop_eq_getElem_cons h, List.take_append_drop]
  generalize row[i] = a at *
  generalize row.drop (i + 1) = r at *
  have hln : (row.take i).length = i := by rw [List.length_take]; omega
  generalize row.take i = p at *
  subst h1
  rw [idxF_app]
  by_cases h2 : p.any (fun b => decide (b.number = a.number)) = true
  · have := idxF_lt _ p h2 0
    simp only [h2, if_true, not_true, iff_false]
    simp at this; omega
  · simp [h2, idxF, hln]
@[simp] theorem take_ml {α β : Type} (f : α → β) (xs : List α) (r : List β) : List.take xs.length (xs.map f ++ r) = xs.map f := by
  rw [List.take_append_of_le_length (by simp), List.take_of_length_le (by simp)]
@[simp] theorem drop_ml {α β : Type} (f : α → β) (xs : List α) (r : List β) : List.drop xs.length (xs.map f ++ r) = r := by
  rw [List.drop_append_of_le_length (by simp)]; simp
@[simp] theorem take_ml0 {α β : Type} (f : α → β) (xs : List α) : List.take xs.length (xs.map f) = xs.map f := List.take_of_length_le (by simp)
@[simp] theorem drop_ml0 {α β : Type} (f : α → β) (xs : List α) : List.drop xs.length (xs.map f) = [] := List.drop_of_length_le (by simp)
theorem cl_flat {α : Type} {c : α → List AV} {p : Nat → Bool} (h : ∀ x, cloL p (c x) = true) (xs : List α) : cloL p (xs.map c).flatten = true := by
  induction xs with
  | nil => rfl
  | cons x xs ih => simp [cloL_app, h x, ih]
@[simp] theorem cl_flatA {p : Nat → Bool} (xs : List Act) : cloL p (xs.map cAct).flatten = true := cl_flat g_cAct xs
@[simp] theorem cl_flatI {p : Nat → Bool} (xs : List Int) : cloL p (xs.map cInt).flatten = true := cl_flat g_cInt xs
@[simp] theorem uni_app (k : Nat) (a b : List (List AV)) : uni k (a ++ b) = (uni k a && uni k b) := by simp [uni]
def aheadB (a b : Act) : Bool := if a.day = b.day then decide (a.number < b.number) else decide (a.day < b.day)
def insA (out : List Act) (a : Act) : List Act := out.takeWhile (aheadB · a) ++ a :: out.dropWhile (aheadB · a)
def refActs (row : List Act) : List Act := (firsts [] row).foldl insA []

theorem lp25_1 (row out : List Act) (a : Act) (i q ver : Nat) (bs : List Nat) (H : List AO) (c1 : Code) (hc1 : (loops (Try.f25.body.getD .skip))[1]? = some c1) (hq : H[q]? = some (.arr ver (out.map cAct))) (ha : row[i]? = some a) (hl : out.length ≤ 10000) :
    ∃ x e' H', lev Try.prog an25 (callD X) c1 bs ((fun s : Nat => [(3, .slc true (row.map cAct)), (4, .arr q ver 0 out.length), (5, I i), (6, I s)]) (0)) ((fun s : Nat => H) (0)) = some (x, e', H') ∧ (H' = H ∧ x = .exit 2 ∧ e'.get 3 = .slc true (row.map cAct) ∧ e'.get 4 = .arr q ver 0 out.length ∧ e'.get 5 = I i ∧ e'.get 6 = I (out.takeWhile (aheadB · a)).length) := by
  simp only [Try.f25, loops, List.cons_append, List.nil_append, List.append_nil, List.getElem?_cons_zero, List.getElem?_cons_succ, Option.getD_some, Option.some.injEq] at hc1
  refine lev_inv (σ := Nat) (fun s => [(3, .slc true (row.map cAct)), (4, .arr q ver 0 out.length), (5, I i), (6, I s)]) (fun s => H) (fun s => s ≤ out.length ∧ (out.takeWhile (aheadB · a)).length = s + ((out.drop s).takeWhile (aheadB · a)).length) (fun s => out.length - s) (fun x e' H' => H' = H ∧ x = .exit 2 ∧ e'.get 3 = .slc true (row.map cAct) ∧ e'.get 4 = .arr q ver 0 out.length ∧ e'.get 5 = I i ∧ e'.get 6 = I (out.takeWhile (aheadB · a)).length) (0) ?_ ?_ ?_ ?_ ?_
  · simp
  · intro s hs; simp
  · intro s hs; simp [cloEnv, clo, cloL, S, lt_of_get hq]
  · intro s hs; subst hc1; simp [keepAt, headId, lookN, Env.keep, Env.get]
  intro s hs
  subst hc1
  obtain ⟨hs, hi⟩ := hs
  have hp := lt_of_get hq
  rcases Nat.lt_or_ge s out.length with hlt | hge
  · have h0 : (s : Int) < (out.length : Int) := by omega
    have hw := wrap_s s (by omega)
    have hg : out[s]? = some out[s] := by simp [hlt]
    have hi3 : ((out.drop s).takeWhile (aheadB · a)).length = if aheadB out[s] a = true then 1 + ((out.drop (s + 1)).takeWhile (aheadB · a)).length else 0 := by
      rw [List.drop_eq_getElem_cons hlt, List.takeWhile_cons]; split <;> simp only [List.length_cons, List.length_nil]; omega
    rw [hi3] at hi
    have h47 := fun bs H => ahead47 out[s] a bs H
    rw [show (if out[s].day = a.day then decide (out[s].number < a.number) else decide (out[s].day < a.day)) = aheadB out[s] a from rfl] at h47
    cases hv : aheadB out[s] a
    · right
      have hi2 : (out.takeWhile (aheadB · a)).length = s := by rw [hi, hv]; rfl
      simp [↓ev_loop, ev, evOps, evOp, wants, req, reqCall, inOf, evOpd, ofConst, ofCell, hands, Ann.mem, Env.get, Env.set, gives, handT, Op.operands, Call.operands, meet, putD, params, AV.strip, keepAt, lookN, Env.keep, binAV, intBinAV, headId, tidy, flagOp, nilConst, List.filterMap_cons, List.filterMap_nil, outOf, resAll, resOf, reifyR, reify, reifyP, clo, cloL, cloLL, cloEnv, loadBox, storeBox, okPut, buildElems, buildCells, int_beq, int_bne, evDraw, evOpsD, evOpD, meetD, numbered, newsOf, newsIn, footsOk, apartF, clash, prec, Region.binds, h0, hw, hg, hv, S, hi2, hq, lenArr, atArr, loadArr, ha, h47, hlt]
    · left
      refine ⟨s + 1, by simp [↓ev_loop, ev, evOps, evOp, wants, req, reqCall, inOf, evOpd, ofConst, ofCell, hands, Ann.mem, Env.get, Env.set, gives, handT, Op.operands, Call.operands, meet, putD, params, AV.strip, keepAt, lookN, Env.keep, binAV, intBinAV, headId, tidy, flagOp, nilConst, List.filterMap_cons, List.filterMap_nil, outOf, resAll, resOf, reifyR, reify, reifyP, clo, cloL, cloLL, cloEnv, loadBox, storeBox, okPut, buildElems, buildCells, int_beq, int_bne, evDraw, evOpsD, evOpD, meetD, numbered, newsOf, newsIn, footsOk, apartF, clash, prec, Region.binds, h0, hw, hg, hv, S, hq, lenArr, atArr, loadArr, ha, h47, hlt], ⟨hlt, ?_⟩, by omega⟩
      rw [hi, hv]; simp only [if_true]; omega
  · right
    have h0 : ¬ (s : Int) < (out.length : Int) := by omega
    have hi2 : (out.takeWhile (aheadB · a)).length = s := by rw [hi, List.drop_of_length_le hge]; simp
    simp [↓ev_loop, ev, evOps, evOp, wants, req, reqCall, inOf, evOpd, ofConst, ofCell, hands, Ann.mem, Env.get, Env.set, gives, handT, Op.operands, Call.operands, meet, putD, params, AV.strip, keepAt, lookN, Env.keep, binAV, intBinAV, headId, tidy, flagOp, nilConst, List.filterMap_cons, List.filterMap_nil, outOf, resAll, resOf, reifyR, reify, reifyP, clo, cloL, cloLL, cloEnv, loadBox, storeBox, okPut, buildElems, buildCells, int_beq, int_bne, evDraw, evOpsD, evOpD, meetD, numbered, newsOf, newsIn, footsOk, apartF, clash, prec, Region.binds, h0, S, hi2, hq, lenArr]

theorem lp25_0 (row : List Act) (q : Nat) (bs : List Nat) (H : List AO) (c0 : Code) (hc0 : (loops (Try.f25.body.getD .skip))[0]? = some c0) (c1 : Code) (hc1 : (loops (Try.f25.body.getD .skip))[1]? = some c1) (hq : q < H.length) (hl : row.length ≤ 10000) :
    ∃ x e' H', lev Try.prog an25 (callD X) c0 bs ((fun s : Nat × Nat × List Act => [(3, .slc true (row.map cAct)), (4, .arr q s.2.1 0 s.2.2.length), (5, I s.1)]) ((0, 0, []))) ((fun s : Nat × Nat × List Act => H.set q (.arr s.2.1 (s.2.2.map cAct))) ((0, 0, []))) = some (x, e', H') ∧ (x = .exit 0 ∧ ∃ ver, H' = H.set q (.arr ver ((refActs row).map cAct)) ∧ e'.get 4 = .arr q ver 0 (refActs row).length) := by
  have hc1' := hc1
  simp only [Try.f25, loops, List.cons_append, List.nil_append, List.append_nil, List.getElem?_cons_zero, List.getElem?_cons_succ, Option.getD_some, Option.some.injEq] at hc0
  simp only [Try.f25, loops, List.cons_append, List.nil_append, List.append_nil, List.getElem?_cons_zero, List.getElem?_cons_succ, Option.getD_some, Option.some.injEq] at hc1
  refine lev_inv (σ := Nat × Nat × List Act) (fun s => [(3, .slc true (row.map cAct)), (4, .arr q s.2.1 0 s.2.2.length), (5, I s.1)]) (fun s => H.set q (.arr s.2.1 (s.2.2.map cAct))) (fun s => s.1 ≤ row.length ∧ s.2.2 = (firsts [] (row.take s.1)).foldl insA [] ∧ s.2.2.length ≤ s.1) (fun s => row.length - s.1) (fun x e' H' => x = .exit 0 ∧ ∃ ver, H' = H.set q (.arr ver ((refActs row).map cAct)) ∧ e'.get 4 = .arr q ver 0 (refActs row).length) ((0, 0, [])) ?_ ?_ ?_ ?_ ?_
  · exact ⟨Nat.zero_le _, rfl, Nat.le_refl _⟩
  · intro s hs; simp
  · intro s hs; simp [cloEnv, clo, cloL, S, hq]
  · intro s hs; subst hc0; simp [keepAt, headId, lookN, Env.keep, Env.get]
  intro s hs
  subst hc0
  (try rw [hc1])
  obtain ⟨s, ver, out⟩ := s
  obtain ⟨hs, ho, hln⟩ := hs
  simp only at hs ho hln ⊢
  rcases Nat.lt_or_ge s row.length with hlt | hge
  · left
    have h0 : (s : Int) < (row.length : Int) := by omega
    have hw := wrap_s s (by omega)
    have hg : row[s]? = some row[s] := by simp [hlt]
    have hf := is_first row s hlt
    have h46 := fun bs H => first46 row row[s].number (by omega) bs H
    have ht : firsts [] (row.take (s + 1)) = firsts [] (row.take s) ++ (if (row.take s).any (fun b => decide (b.number = row[s].number)) = true then [] else [row[s]]) := by
      rw [take_s _ s hlt, firsts_app]; rfl
    generalize row[s] = a at hg hf h46 ht
    simp only [S] at h46
    generalize idxF (fun b => decide (b.number = a.number)) row 0 = z at hf h46
    by_cases hz : z = s
    · have hnf := hf.1 hz
      rw [if_neg hnf] at ht
      have ht2 : (firsts [] (row.take (s + 1))).foldl insA [] = insA out a := by rw [ht, List.foldl_append, ← ho]; rfl
      obtain ⟨x, e', H', h1, rfl, rfl, g3, g4, g5, g6⟩ := lp25_1 row out a s q ver (H.length :: bs) (H.set q (.arr ver (out.map cAct))) c1 hc1' (get_q0 hq _) hg (by omega)
      simp only [S, List.map_nil, Int.ofNat_eq_natCast, Int.natCast_zero, List.length_append, List.length_cons, List.length_nil, Nat.zero_add, Nat.reduceAdd] at h1
      have hins : insA out a = out.takeWhile (aheadB · a) ++ a :: out.dropWhile (aheadB · a) := rfl
      have hsplit : out = out.takeWhile (aheadB · a) ++ out.dropWhile (aheadB · a) := List.takeWhile_append_dropWhile.symm
      generalize hpre : out.takeWhile (aheadB · a) = pre at *
      generalize hpost : out.dropWhile (aheadB · a) = post at *
      clear hpre hpost
      subst hsplit
      have hlen : (insA (pre ++ post) a).length = pre.length + post.length + 1 := by rw [hins]; simp; omega
      rw [List.length_append] at hln
      have b1 : (pre.length + 1) * 88 ≤ 140737488355328 := by omega
      have b2 : pre.length + 1 ≤ 140737488355328 := by omega
      have b3 : (pre.length + 1 + post.length) * 88 ≤ 140737488355328 := by omega
      have b4 : pre.length + 1 + post.length ≤ 140737488355328 := by omega
      have b5 : post.length * 88 ≤ 140737488355328 := by omega
      have b6 : post.length ≤ 140737488355328 := by omega
      cases hpo : post with
      | nil =>
        subst hpo
        refine ⟨(s + 1, ver + 1, insA (pre ++ []) a), ?_, ⟨hlt, ht2.symm, by simp only [hlen, List.length_nil]; simp only [List.length_nil] at hln; omega⟩, by simp only; omega⟩
        rw [hins]
        simp only [List.length_nil, List.map_nil] at *
        cases hpr : pre with
        | nil =>
          subst hpr
          simp at h1 g4 g6 b1 b2 b3 b4 b5 b6
          simp [↓ev_loop, ev, evOps, evOp, wants, req, reqCall, inOf, evOpd, ofConst, ofCell, hands, Ann.mem, Env.get, Env.set, gives, handT, Op.operands, Call.operands, meet, putD, params, AV.strip, keepAt, lookN, Env.keep, binAV, intBinAV, headId, tidy, flagOp, nilConst, List.filterMap_cons, List.filterMap_nil, outOf, resAll, resOf, reifyR, reify, reifyP, clo, cloL, cloLL, cloEnv, loadBox, storeBox, okPut, buildElems, buildCells, int_beq, int_bne, evDraw, evOpsD, evOpD, meetD, numbered, newsOf, newsIn, footsOk, apartF, clash, prec, Region.binds, h0, hw, hg, h46, hz, h1, g3, g4, g5, g6, S, hq, take_q0, get_q0 hq, lenArr, sliceArr, appArr, appOf, highOf, lowOf, b1, b2, b3, b4, b5, b6]
        | cons x pre' =>
          subst hpr
          have p0 : (0 : Int) ≤ (pre'.length : Int) + 1 := by omega
          simp at h1 g4 g6 b1 b2 b3 b4 b5 b6
          simp [↓ev_loop, ev, evOps, evOp, wants, req, reqCall, inOf, evOpd, ofConst, ofCell, hands, Ann.mem, Env.get, Env.set, gives, handT, Op.operands, Call.operands, meet, putD, params, AV.strip, keepAt, lookN, Env.keep, binAV, intBinAV, headId, tidy, flagOp, nilConst, List.filterMap_cons, List.filterMap_nil, outOf, resAll, resOf, reifyR, reify, reifyP, clo, cloL, cloLL, cloEnv, loadBox, storeBox, okPut, buildElems, buildCells, int_beq, int_bne, evDraw, evOpsD, evOpD, meetD, numbered, newsOf, newsIn, footsOk, apartF, clash, prec, Region.binds, h0, hw, hg, h46, hz, h1, g3, g4, g5, g6, S, hq, take_q0, get_q0 hq, lenArr, sliceArr, appArr, appOf, highOf, lowOf, b1, b2, b3, b4, b5, b6, p0]
      | cons y post' =>
        subst hpo
        refine ⟨(s + 1, ver + 1 + 1, insA (pre ++ y :: post') a), ?_, ⟨hlt, ht2.symm, by simp only [hlen]; omega⟩, by simp only; omega⟩
        rw [hins]
        simp only [List.length_cons, List.map_cons] at *
        have p1 : (0 : Int) ≤ (post'.length : Int) + 1 := by omega
        cases hpr : pre with
        | nil =>
          subst hpr
          simp at h1 g4 g6 b1 b2 b3 b4 b5 b6
          simp [↓ev_loop, ev, evOps, evOp, wants, req, reqCall, inOf, evOpd, ofConst, ofCell, hands, Ann.mem, Env.get, Env.set, gives, handT, Op.operands, Call.operands, meet, putD, params, AV.strip, keepAt, lookN, Env.keep, binAV, intBinAV, headId, tidy, flagOp, nilConst, List.filterMap_cons, List.filterMap_nil, outOf, resAll, resOf, reifyR, reify, reifyP, clo, cloL, cloLL, cloEnv, loadBox, storeBox, okPut, buildElems, buildCells, int_beq, int_bne, evDraw, evOpsD, evOpD, meetD, numbered, newsOf, newsIn, footsOk, apartF, clash, prec, Region.binds, h0, hw, hg, h46, hz, h1, g3, g4, g5, g6, S, hq, take_q0, get_q0 hq, lenArr, sliceArr, appArr, appOf, highOf, lowOf, b1, b2, b3, b4, b5, b6, p1, cloL_app]
          omega
        | cons x pre' =>
          subst hpr
          have p2 : (pre'.length : Int) ≤ (pre'.length : Int) + ((post'.length : Int) + 1) := by omega
          have p4 : pre'.length + 1 + (post'.length + 1) ≤ pre'.length + (post'.length + 1) + 1 := by omega
          have p3 : ¬ (pre'.length = pre'.length + (post'.length + 1)) := by omega
          have p0 : (0 : Int) ≤ (pre'.length : Int) + 1 := by omega
          simp at h1 g4 g6 b1 b2 b3 b4 b5 b6
          simp [↓ev_loop, ev, evOps, evOp, wants, req, reqCall, inOf, evOpd, ofConst, ofCell, hands, Ann.mem, Env.get, Env.set, gives, handT, Op.operands, Call.operands, meet, putD, params, AV.strip, keepAt, lookN, Env.keep, binAV, intBinAV, headId, tidy, flagOp, nilConst, List.filterMap_cons, List.filterMap_nil, outOf, resAll, resOf, reifyR, reify, reifyP, clo, cloL, cloLL, cloEnv, loadBox, storeBox, okPut, buildElems, buildCells, int_beq, int_bne, evDraw, evOpsD, evOpD, meetD, numbered, newsOf, newsIn, footsOk, apartF, clash, prec, Region.binds, h0, hw, hg, h46, hz, h1, g3, g4, g5, g6, S, hq, take_q0, get_q0 hq, lenArr, sliceArr, appArr, appOf, highOf, lowOf, b1, b2, b3, b4, b5, b6, p0, p1, p2, p3, p4, cloL_app]
          refine ⟨by omega, ?_⟩
          rw [List.take_of_length_le (by simp)]; simp
    · have hnf : (row.take s).any (fun b => decide (b.number = a.number)) = true := by
        by_cases h : (row.take s).any (fun b => decide (b.number = a.number)) = true
        · exact h
        · exact absurd (hf.2 h) hz
      rw [if_pos hnf, List.append_nil] at ht
      refine ⟨(s + 1, ver, out), ?_, ⟨hlt, by rw [ht]; exact ho, by simp only; omega⟩, by simp only; omega⟩
      simp [↓ev_loop, ev, evOps, evOp, wants, req, reqCall, inOf, evOpd, ofConst, ofCell, hands, Ann.mem, Env.get, Env.set, gives, handT, Op.operands, Call.operands, meet, putD, params, AV.strip, keepAt, lookN, Env.keep, binAV, intBinAV, headId, tidy, flagOp, nilConst, List.filterMap_cons, List.filterMap_nil, outOf, resAll, resOf, reifyR, reify, reifyP, clo, cloL, cloLL, cloEnv, loadBox, storeBox, okPut, buildElems, buildCells, int_beq, int_bne, h0, hw, hg, h46, hz, S, hq, take_q0]
  · right
    have h0 : ¬ (s : Int) < (row.length : Int) := by omega
    rw [List.take_of_length_le hge] at ho
    have ho2 : refActs row = out := ho.symm
    simp [↓ev_loop, ev, evOps, evOp, wants, req, reqCall, inOf, evOpd, ofConst, ofCell, hands, Ann.mem, Env.get, Env.set, gives, handT, Op.operands, Call.operands, meet, putD, params, AV.strip, keepAt, lookN, Env.keep, binAV, intBinAV, headId, tidy, flagOp, nilConst, List.filterMap_cons, List.filterMap_nil, outOf, resAll, resOf, reifyR, reify, reifyP, clo, cloL, cloLL, cloEnv, loadBox, storeBox, okPut, buildElems, buildCells, int_beq, int_bne, h0, S, ho2]

theorem insA_len (out : List Act) (a : Act) : (insA out a).length = out.length + 1 := by
  have h : out.length = (out.takeWhile (aheadB · a)).length + (out.dropWhile (aheadB · a)).length := by
    conv => lhs; rw [← List.takeWhile_append_dropWhile (p := (aheadB · a)) (l := out)]
    simp only [List.length_append]
  simp only [insA, List.length_append, List.length_cons]; omega
theorem acts25 (l : List Gazette) (hl : l.length ≤ 1000) (ht : (l.flatMap Gazette.acts).length ≤ 10000) (bs : List Nat) (H : List AO) :
    callD X 25 [S cGazette l] bs H = some (S cAct (refActs (l.flatMap Gazette.acts)), H) := by
  rw [callD_eq]
  simp only [Xprim]
  unfold runBody
  simp only [XP, Try.func25, Xan25, Xok25]
  obtain ⟨c0, hc0⟩ : ∃ c, (loops (Try.f25.body.getD .skip))[0]? = some c := ⟨_, rfl⟩
  obtain ⟨c1, hc1⟩ : ∃ c, (loops (Try.f25.body.getD .skip))[1]? = some c := ⟨_, rfl⟩
  have hd0 := hc0
  simp only [Try.f25, loops, List.cons_append, List.nil_append, List.append_nil, List.getElem?_cons_zero, List.getElem?_cons_succ, Option.getD_some, Option.some.injEq] at hd0
  have hd1 := hc1
  simp only [Try.f25, loops, List.cons_append, List.nil_append, List.append_nil, List.getElem?_cons_zero, List.getElem?_cons_succ, Option.getD_some, Option.some.injEq] at hd1
  simp only [Try.f25]
  (try rw [hd0])
  (try rw [hd1])
  have h45 := fun bs H => all45 l hl ht bs H
  obtain ⟨x, e', H', h1, rfl, ver, rfl, g4⟩ := lp25_0 (l.flatMap Gazette.acts) H.length (H.length :: bs) (H ++ [.arr 0 []]) c0 hc0 c1 hc1 (by simp) ht
  simp only [S, List.map_nil, Int.ofNat_eq_natCast, Int.natCast_zero, List.length_append, List.length_cons, List.length_nil, Nat.zero_add, Nat.reduceAdd] at h1
  simp only [S] at h45
  simp at h1
  simp [↓ev_loop, ev, evOps, evOp, wants, req, reqCall, inOf, evOpd, ofConst, ofCell, hands, Ann.mem, Env.get, Env.set, gives, handT, Op.operands, Call.operands, meet, putD, params, AV.strip, keepAt, lookN, Env.keep, binAV, intBinAV, headId, tidy, flagOp, nilConst, List.filterMap_cons, List.filterMap_nil, outOf, resAll, resOf, reifyR, reify, reifyP, clo, cloL, cloLL, cloEnv, loadBox, storeBox, okPut, buildElems, buildCells, int_beq, int_bne, h45, h1, g4, S]
end Go.Proofs.Ytlpilgnjlnepeaa.T
namespace Go.Proofs.Ytlpilgnjlnepeaa.T
open Go.VM Go.Proofs
set_option linter.unusedSimpArgs false
set_option maxHeartbeats 16000000
set_option maxRecDepth 10000

/-! the numbers seen -/
def mk (seen : List Int) : List AV := seen.map I
def mv (seen : List Int) : List AV := seen.map fun _ => AV.bool true
def sput (n : Int) : List Int → List Int
  | [] => [n]
  | x :: r => if n = x then n :: r else x :: sput n r
def sfind (n : Int) : List Int → Option Nat
  | [] => none
  | x :: r => if n = x then some 0 else (sfind n r).map (· + 1)
theorem eqvI (a b : Int) : eqAV Try.prog 3 (I a) (I b) = some (decide (a = b)) := by
  by_cases h : a = b <;> simp [eqAV, eqCell, h, int_beq]
theorem find_s (n : Int) (m : List Int) : ∀ i, findAV Try.prog 3 (I n) (mk m) i = some ((sfind n m).map (i + ·)) := by
  induction m with
  | nil => intro i; rfl
  | cons x r ih =>
    intro i
    have := ih (i + 1)
    by_cases h : n = x
    · simp [findAV, mk, eqvI, sfind, h]
    · simp only [mk, List.map_cons, findAV, eqvI, h, decide_false, sfind, if_false]
      rw [show List.map I r = mk r from rfl, this]
      cases sfind n r <;> simp; omega
theorem sput_some (n : Int) (m : List Int) : ∀ i, sfind n m = some i → (mk m).set i (I n) = mk (sput n m) ∧ (mv m).set i (.bool true) = mv (sput n m) ∧ (mv m)[i]? = some (.bool true) := by
  induction m with
  | nil => intro i h; cases h
  | cons x r ih =>
    intro i h
    by_cases hk : n = x
    · simp only [sfind, hk, if_true, Option.some.injEq] at h
      subst h; subst hk
      simp [mk, mv, sput]
    · simp only [sfind, hk, if_false] at h
      cases hf : sfind n r with
      | none => rw [hf] at h; cases h
      | some j =>
        rw [hf] at h
        simp only [Option.map_some, Option.some.injEq] at h
        subst h
        obtain ⟨h1, h2, h3⟩ := ih j hf
        simp only [mk, mv] at h1 h2 h3
        simp [mk, mv, sput, hk, h1, h2, h3]
theorem sput_none (n : Int) (m : List Int) (h : sfind n m = none) : mk m ++ [I n] = mk (sput n m) ∧ mv m ++ [.bool true] = mv (sput n m) := by
  induction m with
  | nil => simp [mk, mv, sput]
  | cons x r ih =>
    by_cases hk : n = x
    · simp [sfind, hk] at h
    · simp only [sfind, hk, if_false, Option.map_eq_none_iff] at h
      obtain ⟨h1, h2⟩ := ih h
      simp only [mk, mv] at h1 h2
      simp [mk, mv, sput, hk, h1, h2]
theorem upd_s (n : Int) (m : List Int) : updMap Try.prog 3 (I n) (.bool true) (.map (mk m) (mv m)) = some (.poison, .map (mk (sput n m)) (mv (sput n m))) := by
  simp only [updMap, keyOk, eqvI, Bool.not_true, Bool.false_eq_true, if_false, find_s]
  cases h : sfind n m with
  | none => simp [sput_none n m h]
  | some i => simp [sput_some n m i h]
theorem sfind_mem (n : Int) (m : List Int) : (sfind n m).isSome = decide (n ∈ m) := by
  induction m with
  | nil => rfl
  | cons x r ih => by_cases h : n = x <;> simp [sfind, h, ih]
theorem look_s (n : Int) (m : List Int) : lookAV Try.prog 3 4 (I n) false (mk m) (mv m) = some (.bool (decide (n ∈ m))) := by
  have h := sfind_mem n m
  simp only [lookAV, keyOk, eqvI, Bool.not_true, Bool.false_eq_true, if_false, find_s]
  cases hf : sfind n m with
  | none => rw [hf] at h; simp [← h]
  | some i => rw [hf] at h; simp [← h, sput_some n m i hf]
theorem mem_sput (a n : Int) (m : List Int) : a ∈ sput n m ↔ a = n ∨ a ∈ m := by
  induction m with
  | nil => simp [sput]
  | cons x r ih =>
    by_cases h : n = x
    · simp [sput, h]
    · simp only [sput, h, if_false, List.mem_cons, ih]
      constructor <;> rintro (h | h | h) <;> simp_all
def seenOf (row : List Act) : List Int := row.foldl (fun m a => sput a.number m) []
def occurs (pre : List Act) (a : Act) : Bool := pre.any fun b => decide (b.number = a.number)
theorem seen_foldl (row : List Act) (n : Int) : ∀ m, n ∈ row.foldl (fun m a => sput a.number m) m ↔ n ∈ m ∨ row.any (fun b => decide (b.number = n)) = true := by
  induction row with
  | nil => intro m; simp
  | cons a r ih =>
    intro m
    simp only [List.foldl_cons, ih, mem_sput, List.any_cons, Bool.or_eq_true, decide_eq_true_eq]
    constructor
    · rintro ((rfl | h) | h)
      · exact .inr (.inl rfl)
      · exact .inl h
      · exact .inr (.inr h)
    · rintro (h | rfl | h)
      · exact .inl (.inr h)
      · exact .inl (.inl rfl)
      · exact .inr h
theorem seen_occurs (pre : List Act) (a : Act) : decide (a.number ∈ seenOf pre) = occurs pre a := by
  have := seen_foldl pre a.number []
  rw [Bool.eq_iff_iff, decide_eq_true_eq]
  simpa [seenOf, occurs] using this
theorem seen_snoc (pre : List Act) (a : Act) : seenOf (pre ++ [a]) = sput a.number (seenOf pre) := by simp [seenOf]

/-! every -/
theorem lp39_1 (l : List Gazette) (acts pre0 : List Act) (f : Nat) (cap : List AV) (hpR : List Act → List AO) (N i : Nat) (g : Gazette) (bs : List Nat) (H : List AO) (c1 : Code) (hc1 : (loops (Try.f39.body.getD .skip))[1]? = some c1) (hN : ∀ p, (hpR p).length = N) (hcap : ∀ M, N ≤ M → cloL (fun i => decide (i < M)) cap = true) (hl : pre0.length + acts.length ≤ 10000) (hf : ∀ p a, p.length < 10000 → ∀ bs r, callD X f (.agg (cAct a) :: .bool (occurs p a) :: cap) bs (hpR p ++ r) = some (.tup [], hpR (p ++ [a]) ++ r)) :
    ∃ x e' H', lev Try.prog an39 (callD X) c1 bs ((fun s : Nat => [(1, .func f [] cap), (4, .map N), (10, S cGazette l), (11, I l.length), (12, I i), (17, S cAct acts), (18, I acts.length), (19, I s)]) (0)) ((fun s : Nat => hpR (pre0 ++ acts.take s) ++ [.map (mk (seenOf (pre0 ++ acts.take s))) (mv (seenOf (pre0 ++ acts.take s))), .box (cGazette g)]) (0)) = some (x, e', H') ∧ (H' = hpR (pre0 ++ acts) ++ [.map (mk (seenOf (pre0 ++ acts))) (mv (seenOf (pre0 ++ acts))), .box (cGazette g)] ∧ x = .exit 2 ∧ e'.get 1 = .func f [] cap ∧ e'.get 4 = .map N ∧ e'.get 10 = S cGazette l ∧ e'.get 11 = I l.length ∧ e'.get 12 = I i) := by
  simp only [Try.f39, loops, List.cons_append, List.nil_append, List.append_nil, List.getElem?_cons_zero, List.getElem?_cons_succ, Option.getD_some, Option.some.injEq] at hc1
  refine lev_inv (σ := Nat) (fun s => [(1, .func f [] cap), (4, .map N), (10, S cGazette l), (11, I l.length), (12, I i), (17, S cAct acts), (18, I acts.length), (19, I s)]) (fun s => hpR (pre0 ++ acts.take s) ++ [.map (mk (seenOf (pre0 ++ acts.take s))) (mv (seenOf (pre0 ++ acts.take s))), .box (cGazette g)]) (fun s => s ≤ acts.length) (fun s => acts.length - s) (fun x e' H' => H' = hpR (pre0 ++ acts) ++ [.map (mk (seenOf (pre0 ++ acts))) (mv (seenOf (pre0 ++ acts))), .box (cGazette g)] ∧ x = .exit 2 ∧ e'.get 1 = .func f [] cap ∧ e'.get 4 = .map N ∧ e'.get 10 = S cGazette l ∧ e'.get 11 = I l.length ∧ e'.get 12 = I i) (0) ?_ ?_ ?_ ?_ ?_
  · simp
  · intro s hs; simp [hN]
  · intro s hs; simp [cloEnv, clo, cloL, S, hN]; exact hcap _ (by omega)
  · intro s hs; subst hc1; simp [keepAt, headId, lookN, Env.keep, Env.get]
  intro s hs
  subst hc1
  rcases Nat.lt_or_ge s acts.length with hlt | hge
  · left
    have h0 : (s : Int) < (acts.length : Int) := by omega
    have hw := wrap_s s (by omega)
    have hg : acts[s]? = some acts[s] := by simp [hlt]
    have ht : pre0 ++ acts.take (s + 1) = (pre0 ++ acts.take s) ++ [acts[s]] := by rw [take_s _ s hlt, List.append_assoc]
    have hln : (pre0 ++ acts.take s).length < 10000 := by simp; omega
    refine ⟨s + 1, ?_, hlt, by omega⟩
    rw [ht]
    generalize acts[s] = a at hg
    generalize pre0 ++ acts.take s = p at *
    have hc := hf p a hln
    have hs := seen_occurs p a
    rw [seen_snoc]
    generalize seenOf p = m at *
    have hL1 := look_s a.number m
    have hU := upd_s a.number m
    have hN1 := hN p
    have hN2 := hN (p ++ [a])
    generalize hpR p = K at *
    generalize hpR (p ++ [a]) = K' at *
    subst hN1
    rw [hs] at hL1
    have e1 : ∀ (r : List AO) (k : Nat), (K' ++ r)[K.length + k]? = r[k]? := fun r k => by rw [← hN2, List.getElem?_append_right (by omega)]; simp
    have e0 : ∀ (r : List AO), (K' ++ r)[K.length]? = r[0]? := fun r => e1 r 0
    have e2 : ∀ (r : List AO) (M : AO), (K' ++ r).set K.length M = K' ++ r.set 0 M := fun r M => by rw [← hN2, List.set_append_right _ _ (by omega)]; simp
    have e3 : ∀ (r : List AO) (k : Nat), (K' ++ r).take (K.length + k) = K' ++ r.take k := fun r k => by rw [← hN2, take_app]
    simp [↓ev_loop, ev, evOps, evOp, wants, req, reqCall, inOf, evOpd, ofConst, ofCell, hands, Ann.mem, Env.get, Env.set, gives, handT, Op.operands, Call.operands, meet, putD, params, AV.strip, keepAt, lookN, Env.keep, binAV, intBinAV, headId, tidy, flagOp, nilConst, List.filterMap_cons, List.filterMap_nil, outOf, resAll, resOf, reifyR, reify, reifyP, clo, cloL, cloLL, cloEnv, loadBox, storeBox, okPut, buildElems, buildCells, int_beq, int_bne, h0, hw, hg, hc, hL1, hU, e0, e1, e2, e3, S, hN2, hN]
  · right
    have h0 : ¬ (s : Int) < (acts.length : Int) := by omega
    simp [↓ev_loop, ev, evOps, evOp, wants, req, reqCall, inOf, evOpd, ofConst, ofCell, hands, Ann.mem, Env.get, Env.set, gives, handT, Op.operands, Call.operands, meet, putD, params, AV.strip, keepAt, lookN, Env.keep, binAV, intBinAV, headId, tidy, flagOp, nilConst, List.filterMap_cons, List.filterMap_nil, outOf, resAll, resOf, reifyR, reify, reifyP, clo, cloL, cloLL, cloEnv, loadBox, storeBox, okPut, buildElems, buildCells, int_beq, int_bne, h0, S, List.take_of_length_le hge]

theorem lp39_0 (l : List Gazette) (f : Nat) (cap : List AV) (hpR : List Act → List AO) (N : Nat) (bs : List Nat) (H : List AO) (c0 : Code) (hc0 : (loops (Try.f39.body.getD .skip))[0]? = some c0) (c1 : Code) (hc1 : (loops (Try.f39.body.getD .skip))[1]? = some c1) (hN : ∀ p, (hpR p).length = N) (hcap : ∀ M, N ≤ M → cloL (fun i => decide (i < M)) cap = true) (hl : l.length ≤ 1000) (hl2 : (l.flatMap Gazette.acts).length ≤ 10000) (hf : ∀ p a, p.length < 10000 → ∀ bs r, callD X f (.agg (cAct a) :: .bool (occurs p a) :: cap) bs (hpR p ++ r) = some (.tup [], hpR (p ++ [a]) ++ r)) :
    ∃ x e' H', lev Try.prog an39 (callD X) c0 bs ((fun s : Nat => [(1, .func f [] cap), (4, .map N), (10, S cGazette l), (11, I l.length), (12, I s)]) (0)) ((fun s : Nat => hpR ((l.take s).flatMap Gazette.acts) ++ [.map (mk (seenOf ((l.take s).flatMap Gazette.acts))) (mv (seenOf ((l.take s).flatMap Gazette.acts)))]) (0)) = some (x, e', H') ∧ (H' = hpR (l.flatMap Gazette.acts) ++ [.map (mk (seenOf (l.flatMap Gazette.acts))) (mv (seenOf (l.flatMap Gazette.acts)))] ∧ x = .exit 0) := by
  have hc1' := hc1
  simp only [Try.f39, loops, List.cons_append, List.nil_append, List.append_nil, List.getElem?_cons_zero, List.getElem?_cons_succ, Option.getD_some, Option.some.injEq] at hc0
  simp only [Try.f39, loops, List.cons_append, List.nil_append, List.append_nil, List.getElem?_cons_zero, List.getElem?_cons_succ, Option.getD_some, Option.some.injEq] at hc1
  refine lev_inv (σ := Nat) (fun s => [(1, .func f [] cap), (4, .map N), (10, S cGazette l), (11, I l.length), (12, I s)]) (fun s => hpR ((l.take s).flatMap Gazette.acts) ++ [.map (mk (seenOf ((l.take s).flatMap Gazette.acts))) (mv (seenOf ((l.take s).flatMap Gazette.acts)))]) (fun s => s ≤ l.length) (fun s => l.length - s) (fun x e' H' => H' = hpR (l.flatMap Gazette.acts) ++ [.map (mk (seenOf (l.flatMap Gazette.acts))) (mv (seenOf (l.flatMap Gazette.acts)))] ∧ x = .exit 0) (0) ?_ ?_ ?_ ?_ ?_
  · simp
  · intro s hs; simp [hN]
  · intro s hs; simp [cloEnv, clo, cloL, S, hN]; exact hcap _ (by omega)
  · intro s hs; subst hc0; simp [keepAt, headId, lookN, Env.keep, Env.get]
  intro s hs
  subst hc0
  (try rw [hc1])
  rcases Nat.lt_or_ge s l.length with hlt | hge
  · left
    have h0 : (s : Int) < (l.length : Int) := by omega
    have hw := wrap_s s (by omega)
    have hg : l[s]? = some l[s] := by simp [hlt]
    have ht : (l.take (s + 1)).flatMap Gazette.acts = (l.take s).flatMap Gazette.acts ++ l[s].acts := by rw [take_s _ s hlt]; simp only [List.flatMap_append, List.flatMap_cons, List.flatMap_nil, List.append_nil]
    have hle := fm_le Gazette.acts l s hlt
    refine ⟨s + 1, ?_, hlt, by omega⟩
    rw [ht]
    have hN0 := hN ((List.take 0 l).flatMap Gazette.acts)
    generalize l[s] = g at hg hle
    generalize (l.take s).flatMap Gazette.acts = p at *
    obtain ⟨x, e', H', h1, rfl, rfl, g1, g4, g10, g11, g12⟩ := lp39_1 l g.acts p f cap hpR N s g ((N + 1) :: bs) H c1 hc1' hN hcap (by omega) hf
    simp only [S, List.map_nil, Int.ofNat_eq_natCast, Int.natCast_zero, List.length_append, List.length_cons, List.length_nil, Nat.zero_add, Nat.reduceAdd] at h1
    simp [hN] at h1
    have hN1 := hN p
    have hN2 := hN (p ++ g.acts)
    have e3 : ∀ (r : List AO) (k : Nat), (hpR (p ++ g.acts) ++ r).take (N + k) = hpR (p ++ g.acts) ++ r.take k := fun r k => by rw [← hN2, take_app]
    have e4 : ∀ (r : List AO) (k : Nat), (hpR p ++ r)[N + k]? = r[k]? := fun r k => by rw [← hN1, List.getElem?_append_right (by omega)]; simp
    have e5 : ∀ (r : List AO) (k : Nat) (M : AO), (hpR p ++ r).set (N + k) M = hpR p ++ r.set k M := fun r k M => by rw [← hN1, List.set_append_right _ _ (by omega)]; simp
    simp [↓ev_loop, ev, evOps, evOp, wants, req, reqCall, inOf, evOpd, ofConst, ofCell, hands, Ann.mem, Env.get, Env.set, gives, handT, Op.operands, Call.operands, meet, putD, params, AV.strip, keepAt, lookN, Env.keep, binAV, intBinAV, headId, tidy, flagOp, nilConst, List.filterMap_cons, List.filterMap_nil, outOf, resAll, resOf, reifyR, reify, reifyP, clo, cloL, cloLL, cloEnv, loadBox, storeBox, okPut, buildElems, buildCells, int_beq, int_bne, h0, hw, hg, h1, g1, g4, g10, g11, g12, e3, e4, e5, S, hN]
  · right
    have h0 : ¬ (s : Int) < (l.length : Int) := by omega
    simp [↓ev_loop, ev, evOps, evOp, wants, req, reqCall, inOf, evOpd, ofConst, ofCell, hands, Ann.mem, Env.get, Env.set, gives, handT, Op.operands, Call.operands, meet, putD, params, AV.strip, keepAt, lookN, Env.keep, binAV, intBinAV, headId, tidy, flagOp, nilConst, List.filterMap_cons, List.filterMap_nil, outOf, resAll, resOf, reifyR, reify, reifyP, clo, cloL, cloLL, cloEnv, loadBox, storeBox, okPut, buildElems, buildCells, int_beq, int_bne, h0, S, List.take_of_length_le hge]
theorem every39 (l : List Gazette) (f : Nat) (cap : List AV) (hpR : List Act → List AO) (N : Nat)
    (hN : ∀ p, (hpR p).length = N) (hcap : ∀ M, N ≤ M → cloL (fun i => decide (i < M)) cap = true) (hl : l.length ≤ 1000) (hl2 : (l.flatMap Gazette.acts).length ≤ 10000)
    (hf : ∀ p a, p.length < 10000 → ∀ bs r, callD X f (.agg (cAct a) :: .bool (occurs p a) :: cap) bs (hpR p ++ r) = some (.tup [], hpR (p ++ [a]) ++ r)) (bs : List Nat) :
    callD X 39 [S cGazette l, .func f [] cap] bs (hpR []) = some (.tup [], hpR (l.flatMap Gazette.acts)) := by
  rw [callD_eq]
  simp only [Xprim]
  unfold runBody
  simp only [XP, Try.func39, Xan39, Xok39]
  obtain ⟨c0, hc0⟩ : ∃ c, (loops (Try.f39.body.getD .skip))[0]? = some c := ⟨_, rfl⟩
  obtain ⟨c1, hc1⟩ : ∃ c, (loops (Try.f39.body.getD .skip))[1]? = some c := ⟨_, rfl⟩
  have hd0 := hc0
  simp only [Try.f39, loops, List.cons_append, List.nil_append, List.append_nil, List.getElem?_cons_zero, List.getElem?_cons_succ, Option.getD_some, Option.some.injEq] at hd0
  have hd1 := hc1
  simp only [Try.f39, loops, List.cons_append, List.nil_append, List.append_nil, List.getElem?_cons_zero, List.getElem?_cons_succ, Option.getD_some, Option.some.injEq] at hd1
  simp only [Try.f39]
  (try rw [hd0])
  (try rw [hd1])
  obtain ⟨x, e', H', h1, rfl, rfl⟩ := lp39_0 l f cap hpR N (N :: bs) [] c0 hc0 c1 hc1 hN hcap hl hl2 hf
  simp only [S, List.map_nil, Int.ofNat_eq_natCast, Int.natCast_zero, List.length_append, List.length_cons, List.length_nil, Nat.zero_add, Nat.reduceAdd] at h1
  simp [hN, mk, mv, seenOf] at h1
  have hN1 := hN []
  have hN2 := hN (l.flatMap Gazette.acts)
  have e3 : ∀ (r : List AO), (hpR (l.flatMap Gazette.acts) ++ r).take N = hpR (l.flatMap Gazette.acts) := fun r => by rw [← hN2, take_app0]
  simp [↓ev_loop, ev, evOps, evOp, wants, req, reqCall, inOf, evOpd, ofConst, ofCell, hands, Ann.mem, Env.get, Env.set, gives, handT, Op.operands, Call.operands, meet, putD, params, AV.strip, keepAt, lookN, Env.keep, binAV, intBinAV, headId, tidy, flagOp, nilConst, List.filterMap_cons, List.filterMap_nil, outOf, resAll, resOf, reifyR, reify, reifyP, clo, cloL, cloLL, cloEnv, loadBox, storeBox, okPut, buildElems, buildCells, int_beq, int_bne, h1, hN, S, e3, mk, mv, seenOf]
end Go.Proofs.Ytlpilgnjlnepeaa.T
namespace Go.Proofs.Ytlpilgnjlnepeaa.T
open Go.VM Go.Proofs
set_option linter.unusedSimpArgs false
set_option maxHeartbeats 16000000
set_option maxRecDepth 10000

@[simp] theorem fit54a (i v o n : Nat) : fitCells Try.prog 54 (.arr i v o n) = some [.arr i v o n] := by simp [fitCells, AV.cells, AV.one]
@[simp] theorem splice1 (x y : AV) : splice [x] 0 [y] = [y] := rfl
def hp40 (H : List AO) (p : List Act) : List AO := H ++ [.arr (firsts [] p).length ((firsts [] p).map cAct), .box [.arr H.length (firsts [] p).length 0 (firsts [] p).length]]
theorem firsts_le (p : List Act) : ∀ pre, (firsts pre p).length ≤ p.length := by
  induction p with
  | nil => intro pre; simp [firsts]
  | cons a r ih =>
    intro pre
    simp only [firsts]
    split
    · exact Nat.le_succ_of_le (ih _)
    · simp only [List.length_cons]; have := ih (pre ++ [a]); omega
theorem tell40 (H : List AO) (p : List Act) (a : Act) (hl : p.length < 10000) (bs : List Nat) (r : List AO) :
    callD X 40 [.agg (cAct a), .bool (occurs p a), .ptr (H.length + 1) 0] bs (hp40 H p ++ r) = some (.tup [], hp40 H (p ++ [a]) ++ r) := by
  have h1 := firsts_app p a []
  rw [List.nil_append] at h1
  have h2 := firsts_le p []
  unfold hp40
  rw [h1, show (p.any fun b => decide (b.number = a.number)) = occurs p a from rfl]
  generalize firsts [] p = out at *
  have hb : ∀ b, (b ≤ H.length + 1 ∨ H.length < b) := by intro b; omega
  have b1 : (out.length + 1) * 88 ≤ 140737488355328 := by omega
  have b2 : out.length + 1 ≤ 140737488355328 := by omega
  rw [callD_eq]
  simp only [Xprim]
  unfold runBody
  simp only [XP, Try.func40, Xan40, Xok40]
  cases occurs p a
  · simp [Try.f40, ↓ev_loop, ev, evOps, evOp, wants, req, reqCall, inOf, evOpd, ofConst, ofCell, hands, Ann.mem, Env.get, Env.set, gives, handT, Op.operands, Call.operands, meet, putD, params, AV.strip, keepAt, lookN, Env.keep, binAV, intBinAV, headId, tidy, flagOp, nilConst, List.filterMap_cons, List.filterMap_nil, outOf, resAll, resOf, reifyR, reify, reifyP, clo, cloL, cloLL, cloEnv, loadBox, storeBox, okPut, buildElems, buildCells, int_beq, int_bne, appArr, b1, b2, hb]
  · simp [Try.f40, ↓ev_loop, ev, evOps, evOp, wants, req, reqCall, inOf, evOpd, ofConst, ofCell, hands, Ann.mem, Env.get, Env.set, gives, handT, Op.operands, Call.operands, meet, putD, params, AV.strip, keepAt, lookN, Env.keep, binAV, intBinAV, headId, tidy, flagOp, nilConst, List.filterMap_cons, List.filterMap_nil, outOf, resAll, resOf, reifyR, reify, reifyP, clo, cloL, cloLL, cloEnv, loadBox, storeBox, okPut, buildElems, buildCells, int_beq, int_bne, appArr, b1, b2, hb]
end Go.Proofs.Ytlpilgnjlnepeaa.T
