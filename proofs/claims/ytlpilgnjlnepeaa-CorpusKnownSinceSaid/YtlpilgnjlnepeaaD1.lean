/-
  The acts that count, the examples, the arguments, the rows' set-up.
-/
import Derived.Test.YtlpilgnjlnepeaaC1
import Derived.Test.YtlpilgnjlnepeaaMLaw
import Derived.KernelRfl
import Derived.Test.YtlpilgnjlnepeaaRows
set_option linter.all false
namespace Go.Proofs.Ytlpilgnjlnepeaa.T
open Go.VM Go.Proofs
set_option linter.unusedSimpArgs false
set_option maxHeartbeats 16000000
set_option maxRecDepth 10000

theorem sort41 (f : Nat → Act) (q v n : Nat) (hn : n ≤ 100000) (bs : List Nat) (H : List AO) (hq : q < H.length) :
    ∃ g, callD X 41 [.arr q v 0 n, .func 42 [] []] bs (H.set q (.arr v (tab f n))) = some (.tup [], H.set q (.arr v (tab g n))) ∧ SW g 0 n ∧ Mix 0 n n f g := by
  obtain ⟨g, h1, h2, h3⟩ := stable57 f q v n hn (H.length :: bs) H hq
  refine ⟨g, ?_, h2, h3⟩
  rw [callD_eq]
  simp only [Xprim]
  unfold runBody
  simp only [XP, Try.func41, Xan41, Xok41]
  simp [Try.f41, ↓ev_loop, ev, evOps, evOp, wants, req, reqCall, inOf, evOpd, ofConst, ofCell, hands, Ann.mem, Env.get, Env.set, gives, handT, Op.operands, Call.operands, meet, putD, params, AV.strip, keepAt, lookN, Env.keep, binAV, intBinAV, headId, tidy, flagOp, nilConst, List.filterMap_cons, List.filterMap_nil, outOf, resAll, resOf, reifyR, reify, reifyP, clo, cloL, cloLL, cloEnv, loadBox, storeBox, okPut, buildElems, buildCells, int_beq, int_bne, hq, get_q0 hq, lenArr, h1, take_q0]
theorem tab_list (L : List Act) : L.map cAct = tab (fun i => L.getD i zAct) L.length := by
  apply List.ext_getElem (by simp)
  intro i h1 h2
  simp at h1
  simp [tab, h1]
theorem list_tab (L : List Act) : (List.range L.length).map (fun i => L.getD i zAct) = L := by
  apply List.ext_getElem (by simp)
  intro i h1 h2
  simp [h2]
theorem tab_map (g : Nat → Act) (n : Nat) : tab g n = ((List.range n).map g).map cAct := by simp [tab]
theorem sw_pair (g : Nat → Act) (n : Nat) (h : SW g 0 n) : ((List.range n).map g).Pairwise leA := by
  rw [List.pairwise_iff_getElem]
  intro i j hi hj hij
  simp at hi hj ⊢
  exact h i j (Nat.zero_le _) hij hj
theorem firsts_pw (row : List Act) : ∀ pre, (firsts pre row).Pairwise (fun a b => a.number ≠ b.number) ∧ ∀ a ∈ firsts pre row, occurs pre a = false := by
  induction row with
  | nil => intro pre; simp [firsts]
  | cons a r ih =>
    intro pre
    obtain ⟨h1, h2⟩ := ih (pre ++ [a])
    have h3 : ∀ b ∈ firsts (pre ++ [a]) r, occurs pre b = false ∧ a.number ≠ b.number := by
      intro b hb
      have := h2 b hb
      simpa [occurs, List.any_append] using this
    simp only [firsts]
    split
    · exact ⟨h1, fun b hb => (h3 b hb).1⟩
    · rename_i hn
      refine ⟨List.pairwise_cons.2 ⟨fun b hb => (h3 b hb).2, h1⟩, ?_⟩
      intro b hb
      rcases List.mem_cons.1 hb with rfl | hb
      · simpa [occurs] using hn
      · exact (h3 b hb).1
theorem pw_inj (L : List Act) (h : L.Pairwise (fun a b => a.number ≠ b.number)) : ∀ a ∈ L, ∀ b ∈ L, a.number = b.number → a = b := by
  induction L with
  | nil => intro a h; cases h
  | cons x r ih =>
    obtain ⟨h1, h2⟩ := List.pairwise_cons.1 h
    intro a ha b hb hn
    rcases List.mem_cons.1 ha with ha1 | ha1
    · rcases List.mem_cons.1 hb with hb1 | hb1
      · rw [ha1, hb1]
      · rw [ha1] at hn; exact absurd hn (h1 b hb1)
    · rcases List.mem_cons.1 hb with hb1 | hb1
      · rw [hb1] at hn; exact absurd hn.symm (h1 a ha1)
      · exact ih h2 a ha1 b hb1 hn
theorem insA_perm (out : List Act) (a : Act) : (insA out a).Perm (a :: out) := by
  unfold insA
  refine List.perm_middle.trans ?_
  rw [List.takeWhile_append_dropWhile]
theorem insA_sorted (out : List Act) (a : Act) (h : out.Pairwise leA) : (insA out a).Pairwise leA := by
  induction out with
  | nil => simp [insA]
  | cons x r ih =>
    obtain ⟨h1, h2⟩ := List.pairwise_cons.1 h
    by_cases hx : aheadB x a = true
    · have : insA (x :: r) a = x :: insA r a := by simp [insA, hx]
      rw [this]
      refine List.pairwise_cons.2 ⟨fun b hb => ?_, ih h2⟩
      rcases List.mem_cons.1 ((insA_perm r a).mem_iff.1 hb) with rfl | hb
      · exact le_of_ahead hx
      · exact h1 b hb
    · have : insA (x :: r) a = a :: x :: r := by simp [insA, hx]
      rw [this]
      refine List.pairwise_cons.2 ⟨fun b hb => ?_, h⟩
      rcases List.mem_cons.1 hb with rfl | hb
      · exact le_of_not_ahead hx
      · exact leA_trans (le_of_not_ahead hx) (h1 b hb)
theorem foldA (xs : List Act) : ∀ out, out.Pairwise leA → (xs.foldl insA out).Pairwise leA ∧ (xs.foldl insA out).Perm (xs ++ out) := by
  induction xs with
  | nil => intro out h; exact ⟨h, List.Perm.refl _⟩
  | cons a r ih =>
    intro out h
    obtain ⟨h1, h2⟩ := ih (insA out a) (insA_sorted out a h)
    refine ⟨h1, h2.trans ?_⟩
    exact (List.Perm.append_left r (insA_perm out a)).trans List.perm_middle
theorem ref_sorted (row : List Act) : (refActs row).Pairwise leA := (foldA _ [] List.Pairwise.nil).1
theorem ref_perm (row : List Act) : (refActs row).Perm (firsts [] row) := by
  have := (foldA (firsts [] row) [] List.Pairwise.nil).2
  rwa [List.append_nil] at this
theorem sorted_unique (row : List Act) (L : List Act) (h1 : L.Perm (firsts [] row)) (h2 : L.Pairwise leA) : L = refActs row := by
  refine List.Perm.eq_of_pairwise (le := leA) ?_ h2 (ref_sorted row) (h1.trans (ref_perm row).symm)
  intro a b ha hb h3 h4
  apply pw_inj _ (firsts_pw row []).1 a (h1.mem_iff.1 ha) b ((ref_perm row).mem_iff.1 hb)
  unfold leA at h3 h4; omega
theorem acts22 (l : List Gazette) (hl : l.length ≤ 1000) (ht : (l.flatMap Gazette.acts).length ≤ 10000) (bs : List Nat) (H : List AO) :
    callD X 22 [S cGazette l] bs H = some (S cAct (refActs (l.flatMap Gazette.acts)), H) := by
  have h39 := fun bs => every39 l 40 [.ptr (H.length + 1) 0] (hp40 H) (H.length + 2) (by simp [hp40]) (by intro M hM; simp [cloL, clo]; omega) hl ht (fun p a hp bs r => tell40 H p a hp bs r) bs
  generalize l.flatMap Gazette.acts = row at *
  generalize hL : firsts [] row = L at *
  have hln : L.length ≤ 10000 := by rw [← hL]; exact Nat.le_trans (firsts_le row []) ht
  obtain ⟨g, hg1, hg2, hg3⟩ := sort41 (fun i => L.getD i zAct) H.length L.length L.length (by omega) (H.length :: bs) (hp40 H row) (by simp [hp40])
  have hperm := hg3.2.2
  rw [list_tab] at hperm
  have hres := sorted_unique row ((List.range L.length).map g) (hL ▸ hperm) (sw_pair g _ hg2)
  have hb : ∀ b, (b ≤ H.length + 1 ∨ H.length < b) := by intro b; omega
  rw [← tab_list] at hg1
  unfold hp40 at hg1 h39
  rw [hL, tab_map, hres] at hg1
  rw [hL] at h39
  have hlen : (refActs row).length = L.length := by rw [← hres]; simp
  simp only [show firsts [] [] = [] from rfl, List.length_nil, List.map_nil] at h39
  simp only [S] at h39
  simp at hg1
  rw [callD_eq]
  simp only [Xprim]
  unfold runBody
  simp only [XP, Try.func22, Xan22, Xok22]
  have hrd : ∀ a b c d, readCells Try.prog 54 [.arr a b c d] 0 = some (.arr a b c d) := fun a b c d => rd ag54 rfl
  simp [Try.f22, ↓ev_loop, ev, evOps, evOp, wants, req, reqCall, inOf, evOpd, ofConst, ofCell, hands, Ann.mem, Env.get, Env.set, gives, handT, Op.operands, Call.operands, meet, putD, params, AV.strip, keepAt, lookN, Env.keep, binAV, intBinAV, headId, tidy, flagOp, nilConst, List.filterMap_cons, List.filterMap_nil, outOf, resAll, resOf, reifyR, reify, reifyP, clo, cloL, cloLL, cloEnv, loadBox, storeBox, okPut, buildElems, buildCells, int_beq, int_bne, h39, hg1, S, hb, hrd, hlen]
  rw [List.take_of_length_le (by simp [hlen])]
  exact ⟨gl_cAct _, rfl⟩
end Go.Proofs.Ytlpilgnjlnepeaa.T
namespace Go.Proofs.Ytlpilgnjlnepeaa.T
open Go.VM Go.Proofs
set_option linter.unusedSimpArgs false
set_option maxHeartbeats 16000000
set_option maxRecDepth 10000

abbrev eB : ByteArray := ByteArray.empty
def stB (k : UInt8) : Step := ⟨2, ⟨#[k]⟩⟩
def itB (k : UInt8) : Item := .mk 1 [stB k] [] 0 0 zUnit [] [] eB eB ⟨0, 0, eB⟩ 0 0 0 eB []
def corB : Item := .mk 11 [] [] 0 0 zUnit [] [] eB eB ⟨0, 0, eB⟩ 1 0 0 eB [itB 54]
def actB (n d : Int) (x : Item) : Act := ⟨n, eB, d, ⟨0, 0, eB⟩, [x]⟩
def gB : Gazette := ⟨1, 9, eB, [actB 2 5 (itB 53), actB 1 9 (itB 53)]⟩
def hB : Gazette := ⟨2, 9, eB, [actB 3 9 corB]⟩
@[simp] theorem fit30s (xs : List (List AV)) : fitCells Try.prog 30 (.slc false xs) = some [.slc false xs] := by simp [fitCells, AV.cells, AV.one]
@[simp] theorem fit40s (xs : List (List AV)) : fitCells Try.prog 40 (.slc false xs) = some [.slc false xs] := by simp [fitCells, AV.cells, AV.one]
@[simp] theorem fit54s (xs : List (List AV)) : fitCells Try.prog 54 (.slc false xs) = some [.slc false xs] := by simp [fitCells, AV.cells, AV.one]
@[simp high] theorem build71 (a : Int) (s : ByteArray) : buildCells Try.prog 71 [(0, I a), (1, .str s)] [.int .i64 0, .str ByteArray.empty] = some (cStep ⟨a, s⟩) := by
  simp [buildCells, splice, cStep]
@[simp high] theorem build42a (k : Int) (x : Step) : buildCells Try.prog 42 [(0, I k), (1, .slc false [cStep x])] (cItem zItem) = some (cItem (.mk k [x] [] 0 0 zUnit [] [] eB eB ⟨0, 0, eB⟩ 0 0 0 eB [])) := by
  rw [show cItem zItem = [I 0, .slc false [], .slc false [], I 0, I 0, I 0, I 0, I 0, I 0, .str eB, .slc false [], .slc false [], .slc false [], .slc false [], .slc false [], .str eB, .str eB, I 0, I 0, .str eB, I 0, I 0, I 0, .str eB, .slc false []] from rfl]
  simp [buildCells, splice]; rfl
@[simp high] theorem build42b (k a : Int) (x : Item) : buildCells Try.prog 42 [(0, I k), (11, I a), (15, .slc false [cItem x])] (cItem zItem) = some (cItem (.mk k [] [] 0 0 zUnit [] [] eB eB ⟨0, 0, eB⟩ a 0 0 eB [x])) := by
  rw [show cItem zItem = [I 0, .slc false [], .slc false [], I 0, I 0, I 0, I 0, I 0, I 0, .str eB, .slc false [], .slc false [], .slc false [], .slc false [], .slc false [], .str eB, .str eB, I 0, I 0, .str eB, I 0, I 0, I 0, .str eB, .slc false []] from rfl]
  simp [buildCells, splice]; rfl
@[simp high] theorem build57a (n d : Int) (x : Item) : buildCells Try.prog 57 [(0, I n), (2, I d), (4, .slc false [cItem x])] (cAct zAct) = some (cAct ⟨n, eB, d, ⟨0, 0, eB⟩, [x]⟩) := by
  rw [show cAct zAct = [I 0, .str eB, I 0, I 0, I 0, .str eB, .slc false []] from rfl]
  simp [buildCells, splice, cAct, S]
@[simp high] theorem build60a (n d : Int) (a b : Act) : buildCells Try.prog 60 [(0, I n), (1, I d), (3, .slc false [cAct a, cAct b])] (cGazette zGaz) = some (cGazette ⟨n, d, eB, [a, b]⟩) := by
  rw [show cGazette zGaz = [I 0, I 0, .str eB, .slc false []] from rfl]
  simp [buildCells, splice, cGazette, S]
@[simp high] theorem build60b (n d : Int) (a : Act) : buildCells Try.prog 60 [(0, I n), (1, I d), (3, .slc false [cAct a])] (cGazette zGaz) = some (cGazette ⟨n, d, eB, [a]⟩) := by
  rw [show cGazette zGaz = [I 0, I 0, .str eB, .slc false []] from rfl]
  simp [buildCells, splice, cGazette, S]

theorem reg11_1 (bs : List Nat) (H : List AO) (c : Code) (hc : (regs (Try.f11.body.getD .skip))[1]? = some c) :
    ev Try.prog an11 (callD X) iterD c bs [] (H ++ []) = some (.normal, [(1, .ptr H.length 0)], H ++ [.box (cItem (itB 53))]) := by
  simp only [Try.f11, regs, List.cons_append, List.nil_append, List.append_nil, List.getElem?_cons_zero, List.getElem?_cons_succ, Option.getD_some, Option.some.injEq] at hc
  subst hc
  simp [↓ev_loop, ev, evOps, evOp, wants, req, reqCall, inOf, evOpd, ofConst, ofCell, hands, Ann.mem, Env.get, Env.set, gives, handT, Op.operands, Call.operands, meet, putD, params, AV.strip, keepAt, lookN, Env.keep, binAV, intBinAV, headId, tidy, flagOp, nilConst, List.filterMap_cons, List.filterMap_nil, outOf, resAll, resOf, reifyR, reify, reifyP, clo, cloL, cloLL, cloEnv, loadBox, storeBox, okPut, buildElems, buildCells, int_beq, int_bne, itB, stB, actB, gB, hB, corB]

theorem reg11_2 (bs : List Nat) (H : List AO) (c : Code) (hc : (regs (Try.f11.body.getD .skip))[2]? = some c) :
    ev Try.prog an11 (callD X) iterD c bs [(1, .ptr H.length 0)] (H ++ [.box (cItem (itB 53))]) = some (.normal, [(1, .ptr H.length 0), (2, .ptr (H.length + 1) 0)], H ++ [.box (cItem (itB 53)), .box (cItem (itB 54))]) := by
  simp only [Try.f11, regs, List.cons_append, List.nil_append, List.append_nil, List.getElem?_cons_zero, List.getElem?_cons_succ, Option.getD_some, Option.some.injEq] at hc
  subst hc
  simp [↓ev_loop, ev, evOps, evOp, wants, req, reqCall, inOf, evOpd, ofConst, ofCell, hands, Ann.mem, Env.get, Env.set, gives, handT, Op.operands, Call.operands, meet, putD, params, AV.strip, keepAt, lookN, Env.keep, binAV, intBinAV, headId, tidy, flagOp, nilConst, List.filterMap_cons, List.filterMap_nil, outOf, resAll, resOf, reifyR, reify, reifyP, clo, cloL, cloLL, cloEnv, loadBox, storeBox, okPut, buildElems, buildCells, int_beq, int_bne, itB, stB, actB, gB, hB, corB]

theorem reg11_3 (bs : List Nat) (H : List AO) (c : Code) (hc : (regs (Try.f11.body.getD .skip))[3]? = some c) :
    ev Try.prog an11 (callD X) iterD c bs [(1, .ptr H.length 0), (2, .ptr (H.length + 1) 0)] (H ++ [.box (cItem (itB 53)), .box (cItem (itB 54))]) = some (.normal, [(1, .ptr H.length 0), (2, .ptr (H.length + 1) 0), (3, .ptr (H.length + 2) 0)], H ++ [.box (cItem (itB 53)), .box (cItem (itB 54)), .box (cGazette gB)]) := by
  simp only [Try.f11, regs, List.cons_append, List.nil_append, List.append_nil, List.getElem?_cons_zero, List.getElem?_cons_succ, Option.getD_some, Option.some.injEq] at hc
  subst hc
  simp [↓ev_loop, ev, evOps, evOp, wants, req, reqCall, inOf, evOpd, ofConst, ofCell, hands, Ann.mem, Env.get, Env.set, gives, handT, Op.operands, Call.operands, meet, putD, params, AV.strip, keepAt, lookN, Env.keep, binAV, intBinAV, headId, tidy, flagOp, nilConst, List.filterMap_cons, List.filterMap_nil, outOf, resAll, resOf, reifyR, reify, reifyP, clo, cloL, cloLL, cloEnv, loadBox, storeBox, okPut, buildElems, buildCells, int_beq, int_bne, itB, stB, actB, gB, hB, corB]

theorem reg11_4 (bs : List Nat) (H : List AO) (c : Code) (hc : (regs (Try.f11.body.getD .skip))[4]? = some c) :
    ev Try.prog an11 (callD X) iterD c bs [(1, .ptr H.length 0), (2, .ptr (H.length + 1) 0), (3, .ptr (H.length + 2) 0)] (H ++ [.box (cItem (itB 53)), .box (cItem (itB 54)), .box (cGazette gB)]) = some (.normal, [(1, .ptr H.length 0), (2, .ptr (H.length + 1) 0), (3, .ptr (H.length + 2) 0), (4, .ptr (H.length + 3) 0)], H ++ [.box (cItem (itB 53)), .box (cItem (itB 54)), .box (cGazette gB), .box (cGazette hB)]) := by
  simp only [Try.f11, regs, List.cons_append, List.nil_append, List.append_nil, List.getElem?_cons_zero, List.getElem?_cons_succ, Option.getD_some, Option.some.injEq] at hc
  subst hc
  simp [↓ev_loop, ev, evOps, evOp, wants, req, reqCall, inOf, evOpd, ofConst, ofCell, hands, Ann.mem, Env.get, Env.set, gives, handT, Op.operands, Call.operands, meet, putD, params, AV.strip, keepAt, lookN, Env.keep, binAV, intBinAV, headId, tidy, flagOp, nilConst, List.filterMap_cons, List.filterMap_nil, outOf, resAll, resOf, reifyR, reify, reifyP, clo, cloL, cloLL, cloEnv, loadBox, storeBox, okPut, buildElems, buildCells, int_beq, int_bne, itB, stB, actB, gB, hB, corB]
end Go.Proofs.Ytlpilgnjlnepeaa.T
namespace Go.Proofs.Ytlpilgnjlnepeaa.T
open Go.VM Go.Proofs
set_option linter.unusedSimpArgs false
set_option maxHeartbeats 16000000
set_option maxRecDepth 10000

/-! what the program finds in a list of gazettes -/
def rowOf (l : List Gazette) : List Act := l.flatMap Gazette.acts
def actsOf (l : List Gazette) : List Act := refActs (rowOf l)
def itemsOf (l : List Gazette) : List EI := deedsOf (actsOf l)
structure Fit (l : List Gazette) : Prop where
  len : l.length ≤ 1000
  row : (rowOf l).length ≤ 10000
  its : nItems (rowOf l) ≤ 10000
  wf : ∀ g ∈ l, wfG g
theorem sub_nItems {a : Act} {xs : List Act} (h : a ∈ xs) : a.items.length ≤ nItems xs := by
  induction xs with
  | nil => cases h
  | cons x r ih =>
    have : nItems (x :: r) = x.items.length + nItems r := by simp [nItems]
    rcases List.mem_cons.1 h with rfl | h
    · omega
    · have := ih h; omega
theorem firsts_sub (row : List Act) : ∀ pre, (firsts pre row).Sublist row := by
  induction row with
  | nil => intro pre; simp [firsts]
  | cons a r ih =>
    intro pre
    simp only [firsts]
    split
    · exact (ih _).cons _
    · exact (ih _).cons_cons _
theorem nItems_perm {a b : List Act} (h : a.Perm b) : nItems a = nItems b := (h.map _).sum_nat
theorem nItems_sub {a b : List Act} (h : a.Sublist b) : nItems a ≤ nItems b := by
  induction h with
  | slnil => exact Nat.le_refl _
  | cons x _ ih => have : ∀ y (r : List Act), nItems (y :: r) = y.items.length + nItems r := fun y r => by simp [nItems]
                   rw [this]; omega
  | cons_cons x _ ih => have : ∀ y (r : List Act), nItems (y :: r) = y.items.length + nItems r := fun y r => by simp [nItems]
                        rw [this, this]; omega
theorem deeds_len (acts : List Act) : (deedsOf acts).length = nItems acts := by
  unfold deedsOf
  rw [show nItems acts = (acts.map fun a => ((eItems a).map (fxE acts)).length).sum by
    unfold nItems; congr 1; apply List.map_congr_left; intro a _; simp [eItems, eFrom_len]]
  rw [List.length_flatMap]
variable {l : List Gazette}
theorem Fit.acts_mem (h : Fit l) {a : Act} (ha : a ∈ actsOf l) : a ∈ rowOf l := (firsts_sub _ []).subset ((ref_perm _).mem_iff.1 ha)
theorem Fit.acts_n (h : Fit l) : nItems (actsOf l) ≤ nItems (rowOf l) := by
  rw [actsOf, nItems_perm (ref_perm _)]; exact nItems_sub (firsts_sub _ [])
theorem Fit.acts_len (h : Fit l) : (actsOf l).length ≤ 10000 := by
  rw [actsOf, (ref_perm _).length_eq]; exact Nat.le_trans (firsts_le _ []) h.row
theorem Fit.acts_its (h : Fit l) : ∀ a ∈ actsOf l, a.items.length ≤ 10000 := fun a ha => Nat.le_trans (sub_nItems (h.acts_mem ha)) h.its
theorem Fit.items_len (h : Fit l) : (itemsOf l).length ≤ 10000 := by
  rw [itemsOf, deeds_len]; exact Nat.le_trans h.acts_n h.its
theorem Fit.c22 (h : Fit l) (bs : List Nat) (H : List AO) : callD X 22 [S cGazette l] bs H = some (S cAct (actsOf l), H) := acts22 l h.len h.row bs H
theorem Fit.c25 (h : Fit l) (bs : List Nat) (H : List AO) : callD X 25 [S cGazette l] bs H = some (S cAct (actsOf l), H) := acts25 l h.len h.row bs H
theorem Fit.c13 (h : Fit l) (bs : List Nat) (H : List AO) : callD X 13 [S cGazette l] bs H = some (.slc true ((itemsOf l).map cEI), H) :=
  deeds13 l (actsOf l) h.acts_len h.acts_its h.items_len false h.c22 bs H
theorem Fit.c14 (h : Fit l) (bs : List Nat) (H : List AO) : callD X 14 [S cGazette l] bs H = some (.slc true ((itemsOf l).map cEI), H) :=
  deeds14 l (actsOf l) h.acts_len h.acts_its h.items_len h.c25 bs H
theorem Fit.c15 (h : Fit l) (n k : Int) (bs : List Nat) (H : List AO) : callD X 15 [I n, I k, S cGazette l] bs H = some (found n k (itemsOf l), H) := find15 l n k _ h.items_len h.c13 bs H
theorem Fit.c16 (h : Fit l) (n k : Int) (bs : List Nat) (H : List AO) : callD X 16 [I n, I k, S cGazette l] bs H = some (found n k (itemsOf l), H) := find16 l n k _ h.items_len h.c14 bs H
theorem Fit.take (h : Fit l) (j : Nat) : Fit (l.take j) := by
  have hs : (rowOf (l.take j)).Sublist (rowOf l) := by
    unfold rowOf
    conv => rhs; rw [← List.take_append_drop j l, List.flatMap_append]
    exact List.sublist_append_left _ _
  exact ⟨by rw [List.length_take]; have := h.len; omega, Nat.le_trans hs.length_le h.row, Nat.le_trans (nItems_sub hs) h.its, fun g hg => h.wf g (List.mem_of_mem_take hg)⟩
/-! the items' sizes -/
theorem Fit.row_wf (h : Fit l) : ∀ a ∈ rowOf l, wfA a := by
  intro a ha
  obtain ⟨g, hg, ha⟩ := List.mem_flatMap.1 ha
  exact (h.wf g hg).2 a ha
theorem step_wf {n k : Int} {cur x : Item} (h1 : wfI cur) (h2 : wfI x) : wfI (stepC n k cur x) := by
  unfold stepC isC
  split
  · split
    · rename_i b r hb
      split
      · exact ((wfI_eq x).1 h2).2.2.2.2.2.2 b (by rw [hb]; exact List.mem_cons_self)
      · exact h1
    · exact h1
  · exact h1
theorem fold_wf {n k : Int} (xs : List Item) : ∀ cur, wfI cur → (∀ x ∈ xs, wfI x) → wfI (xs.foldl (stepC n k) cur) := by
  induction xs with
  | nil => intro cur h _; exact h
  | cons x r ih => intro cur h1 h2; exact ih _ (step_wf h1 (h2 x List.mem_cons_self)) (fun y hy => h2 y (List.mem_cons_of_mem _ hy))
theorem eFrom_mem (a : Act) (xs : List Item) : ∀ i, ∀ d ∈ eFrom a i xs, d.it ∈ xs := by
  induction xs with
  | nil => intro i d h; cases h
  | cons x r ih =>
    intro i d h
    rcases List.mem_cons.1 h with rfl | h
    · exact List.mem_cons_self
    · exact List.mem_cons_of_mem _ (ih _ d h)
theorem Fit.items_wf (h : Fit l) : ∀ d ∈ itemsOf l, wfI d.it := by
  intro d hd
  obtain ⟨a, ha, hd⟩ := List.mem_flatMap.1 hd
  obtain ⟨e, he, rfl⟩ := List.mem_map.1 hd
  have hwa := h.row_wf a (h.acts_mem ha)
  have hit : wfI e.it := hwa.2 _ (eFrom_mem a _ 0 e he)
  simp only [fxE, fixI]
  split
  · refine fold_wf _ _ hit ?_
    intro x hx
    obtain ⟨b, hb, hx⟩ := List.mem_flatMap.1 hx
    exact (h.row_wf b (h.acts_mem hb)).2 x hx
  · exact hit
def preF (l : List Gazette) (j : Nat) : List EI := itemsOf (l.take j)
theorem Fit.pre_wf (h : Fit l) : ∀ j, ∀ y ∈ preF l j, wfI y.it := fun j y hy => (h.take j).items_wf y hy
theorem Fit.c18 (h : Fit l) (n k : Int) (bs : List Nat) (H : List AO) : callD X 18 [I n, I k, S cGazette l] bs H = some (I (sinceF n k (preF l) l.length), H) :=
  since18 l n k (preF l) (by have := h.len; omega) (fun j _ bs H => (h.take j).c15 n k bs H) h.pre_wf bs H
theorem Fit.c19 (h : Fit l) (n k : Int) (bs : List Nat) (H : List AO) : callD X 19 [I n, I k, S cGazette l] bs H = some (I (sinceF n k (preF l) l.length), H) :=
  since19 l n k (preF l) (by have := h.len; omega) (fun j _ bs H => (h.take j).c16 n k bs H) h.pre_wf bs H
theorem Fit.c20 (h : Fit l) (d : Int) (bs : List Nat) (H : List AO) : callD X 20 [I d, S cGazette l] bs H = some (I (byDay d l), H) := by20 l d (by have := h.len; omega) bs H
theorem Fit.c21 (h : Fit l) (d : Int) (bs : List Nat) (H : List AO) : callD X 21 [I d, S cGazette l] bs H = some (I (byDay d l), H) := by21 l d (by have := h.len; omega) bs H
theorem Fit.c12 (h : Fit l) (b : List EI) (bs : List Nat) (H : List AO) : callD X 12 [S cEI (itemsOf l), S cEI b] bs H = some (.bool (beqP (itemsOf l) b), H) :=
  rows12 _ b (by have := h.items_len; omega) h.items_wf bs H
end Go.Proofs.Ytlpilgnjlnepeaa.T
namespace Go.Proofs.Ytlpilgnjlnepeaa.T
open Go.VM Go.Proofs
set_option linter.unusedSimpArgs false
set_option maxHeartbeats 16000000
set_option maxRecDepth 10000

def lB : List Gazette := [gB, hB]
def d1B : EI := ⟨2, 0, 5, itB 53⟩
def d2B : EI := ⟨1, 0, 9, itB 54⟩
def d3B : EI := ⟨3, 0, 9, corB⟩
theorem row_B : rowOf lB = [actB 2 5 (itB 53), actB 1 9 (itB 53), actB 3 9 corB] := rfl
theorem acts_B : actsOf lB = [actB 2 5 (itB 53), actB 1 9 (itB 53), actB 3 9 corB] := by
  rw [actsOf, row_B]
  simp [refActs, firsts, insA, aheadB, actB]
theorem items_B : itemsOf lB = [d1B, d2B, d3B] := by
  rw [itemsOf, acts_B]
  simp [deedsOf, eItems, eFrom, fxE, fixI, items, stepC, isC, actB, itB, corB, Item.kind, Item.act, Item.item, Item.by_, d1B, d2B, d3B]
theorem items_B1 : itemsOf (lB.take 1) = [d1B, ⟨1, 0, 9, itB 53⟩] := by
  have h1 : rowOf (lB.take 1) = [actB 2 5 (itB 53), actB 1 9 (itB 53)] := rfl
  have h2 : actsOf (lB.take 1) = [actB 2 5 (itB 53), actB 1 9 (itB 53)] := by
    rw [actsOf, h1]; simp [refActs, firsts, insA, aheadB, actB]
  rw [itemsOf, h2]
  simp [deedsOf, eItems, eFrom, fxE, fixI, items, stepC, isC, actB, itB, corB, Item.kind, Item.act, Item.item, Item.by_, d1B, d2B, d3B]
theorem wfB (k : UInt8) : wfI (itB k) := by
  simp [itB, stB, wfI, wfIs, zUnit, wfU, wfUs]
theorem wfC : wfI corB := by
  have := wfB 54
  simp [corB, wfI, wfIs, zUnit, wfU, wfUs, this]
theorem fit_B : Fit lB := by
  refine ⟨by simp [lB], by rw [row_B]; simp, by rw [row_B]; simp [nItems, actB], ?_⟩
  intro g hg
  have h1 : ∀ n d k, wfA (actB n d (itB k)) := fun n d k => ⟨by simp [actB], fun y hy => by simp only [actB, List.mem_singleton] at hy; rw [hy]; exact wfB k⟩
  have h2 : ∀ n d, wfA (actB n d corB) := fun n d => ⟨by simp [actB], fun y hy => by simp only [actB, List.mem_singleton] at hy; rw [hy]; exact wfC⟩
  simp only [lB, List.mem_cons, List.not_mem_nil, or_false] at hg
  rcases hg with rfl | rfl
  · exact ⟨by simp [gB], fun a ha => by simp only [gB, List.mem_cons, List.not_mem_nil, or_false] at ha; rcases ha with rfl | rfl <;> exact h1 _ _ _⟩
  · exact ⟨by simp [hB], fun a ha => by simp only [hB, List.mem_cons, List.not_mem_nil, or_false] at ha; rw [ha]; exact h2 _ _⟩
theorem ne_B : itB 53 ≠ itB 54 := by simp [itB, stB]
theorem since_B : sinceF 1 0 (preF lB) 2 = 2 := by
  have h2 : preF lB 2 = [d1B, d2B, d3B] := items_B
  have h1 : preF lB 1 = [d1B, ⟨1, 0, 9, itB 53⟩] := items_B1
  have hne : (⟨1, 0, 9, itB 53⟩ : EI) ≠ d2B := by intro h; exact ne_B (congrArg EI.it h)
  have f2 : (preF lB 2).find? (isE 1 0) = some d2B := by rw [h2]; simp [isE, d1B, d2B, d3B]
  have f1 : (preF lB 1).find? (isE 1 0) = some ⟨1, 0, 9, itB 53⟩ := by rw [h1]; simp [isE, d1B]
  unfold sinceF
  rw [f2]
  simp [sinceN, goodAt, f1, f2, beqP_ne hne]
theorem awake11 (bs : List Nat) (H : List AO) : callD X 11 [] bs H = some (.bool true, H) := by
  have h13 := fun bs H => fit_B.c13 bs H
  have h18 := fun bs H => fit_B.c18 1 0 bs H
  have h20 := fun bs H => fit_B.c20 8 bs H
  rw [items_B] at h13
  rw [show lB.length = 2 from rfl, since_B] at h18
  rw [show byDay 8 lB = 0 by simp [byDay, lB, gB]] at h20
  have h26 := fun y bs H => eq26 _ (itB 54) y (Nat.lt_succ_self _) (wfB 54) bs H
  have h26' := fun y bs H => eq26 _ (itB 53) y (Nat.lt_succ_self _) (wfB 53) bs H
  simp only [S, lB, List.map_cons, List.map_nil] at h13 h18 h20
  rw [callD_eq]
  simp only [Xprim]
  unfold runBody
  simp only [XP, Try.func11, Xan11, Xok11]
  obtain ⟨c1, hc1⟩ : ∃ c, (regs (Try.f11.body.getD .skip))[1]? = some c := ⟨_, rfl⟩
  obtain ⟨c2, hc2⟩ : ∃ c, (regs (Try.f11.body.getD .skip))[2]? = some c := ⟨_, rfl⟩
  obtain ⟨c3, hc3⟩ : ∃ c, (regs (Try.f11.body.getD .skip))[3]? = some c := ⟨_, rfl⟩
  obtain ⟨c4, hc4⟩ : ∃ c, (regs (Try.f11.body.getD .skip))[4]? = some c := ⟨_, rfl⟩
  have r1 := reg11_1 (H.length :: bs) H c1 hc1
  have r2 := reg11_2 (H.length :: bs) H c2 hc2
  have r3 := reg11_3 (H.length :: bs) H c3 hc3
  have r4 := reg11_4 (H.length :: bs) H c4 hc4
  simp only [Try.f11, regs, List.cons_append, List.nil_append, List.append_nil, List.getElem?_cons_zero, List.getElem?_cons_succ, Option.getD_some, Option.some.injEq] at hc1 hc2 hc3 hc4
  simp only [Try.f11]
  rw [hc1, hc2, hc3, hc4]
  rw [List.append_nil] at r1
  have z1 : d1B.act = 2 := rfl
  have z2 : d2B.act = 1 := rfl
  have z3 : d1B.it = itB 53 := rfl
  have z4 : d2B.it = itB 54 := rfl
  simp (config := { maxSteps := 1000000 }) [↓ev_loop, ev, evOps, evOp, wants, req, reqCall, inOf, evOpd, ofConst, ofCell, hands, Ann.mem, Env.get, Env.set, gives, handT, Op.operands, Call.operands, meet, putD, params, AV.strip, keepAt, lookN, Env.keep, binAV, intBinAV, headId, tidy, flagOp, nilConst, List.filterMap_cons, List.filterMap_nil, outOf, resAll, resOf, reifyR, reify, reifyP, clo, cloL, cloLL, cloEnv, loadBox, storeBox, okPut, buildElems, buildCells, int_beq, int_bne, evDraw, evOpsD, evOpD, meetD, numbered, newsOf, newsIn, footsOk, apartF, clash, prec, Region.binds, r1, r2, r3, r4, h13, h18, h20, h26, h26', z1, z2, z3, z4]
end Go.Proofs.Ytlpilgnjlnepeaa.T
namespace Go.Proofs.Ytlpilgnjlnepeaa.T
open Go.VM Go.Proofs
set_option linter.unusedSimpArgs false
set_option maxHeartbeats 16000000
set_option maxRecDepth 10000

@[simp] theorem eqvB (a b : Bool) : eqAV Try.prog 4 (.bool a) (.bool b) = some (a == b) := by simp [eqAV, eqCell]
/-- Lists of gazettes whose rows are no longer than a machine holds. -/
def okG (l : List Gazette) : Prop := l.length ≤ 4000000000000000000 ∧ ∀ g ∈ l, wfG g
theorem row_few (l : List Gazette) (h : ∀ g ∈ l, g.acts.length ≤ 8) : (rowOf l).length ≤ 8 * l.length := by
  induction l with
  | nil => simp [rowOf]
  | cons g r ih =>
    have h1 := h g List.mem_cons_self
    have h2 := ih (fun x hx => h x (List.mem_cons_of_mem _ hx))
    simp only [rowOf, List.flatMap_cons, List.length_append, List.length_cons] at h2 ⊢
    omega
theorem few_fit {l : List Gazette} (hl : okG l) (bs : List Nat) (H : List AO) : ∃ r, callD X 10 [S cGazette l, I 30] bs H = some (.bool r, H) ∧ (r = true → Fit l ∧ l.length ≤ 8) := by
  obtain ⟨r, h1, h2⟩ := few10 l hl.1 hl.2 bs H
  refine ⟨r, h1, fun hr => ?_⟩
  obtain ⟨h3, h4, h5⟩ := h2 hr
  have := row_few l h5
  exact ⟨⟨by omega, by omega, by unfold rowOf; omega, hl.2⟩, h3⟩
theorem law3 (l : List Gazette) (hl : okG l) (bs : List Nat) (H : List AO) : callD X 3 [S cGazette l] bs H = some (.bool true, H) := by
  obtain ⟨r, h1, h2⟩ := few_fit hl (H.length :: bs) H
  simp only [S] at h1
  rw [callD_eq]
  simp only [Xprim]
  unfold runBody
  simp only [XP, Try.func3, Xan3, Xok3]
  cases r
  · simp [Try.f3, ↓ev_loop, ev, evOps, evOp, wants, req, reqCall, inOf, evOpd, ofConst, ofCell, hands, Ann.mem, Env.get, Env.set, gives, handT, Op.operands, Call.operands, meet, putD, params, AV.strip, keepAt, lookN, Env.keep, binAV, intBinAV, headId, tidy, flagOp, nilConst, List.filterMap_cons, List.filterMap_nil, outOf, resAll, resOf, reifyR, reify, reifyP, clo, cloL, cloLL, cloEnv, loadBox, storeBox, okPut, buildElems, buildCells, int_beq, int_bne, S, h1, awake11]
  · obtain ⟨hf, h8⟩ := h2 rfl
    have h13 := fun bs H => hf.c13 bs H
    have h14 := fun bs H => hf.c14 bs H
    have h12 := fun bs H => hf.c12 (itemsOf l) bs H
    simp only [S] at h13 h14 h12
    simp [Try.f3, ↓ev_loop, ev, evOps, evOp, wants, req, reqCall, inOf, evOpd, ofConst, ofCell, hands, Ann.mem, Env.get, Env.set, gives, handT, Op.operands, Call.operands, meet, putD, params, AV.strip, keepAt, lookN, Env.keep, binAV, intBinAV, headId, tidy, flagOp, nilConst, List.filterMap_cons, List.filterMap_nil, outOf, resAll, resOf, reifyR, reify, reifyP, clo, cloL, cloLL, cloEnv, loadBox, storeBox, okPut, buildElems, buildCells, int_beq, int_bne, S, h1, awake11, h13, h14, h12]
theorem law4 (l : List Gazette) (act item day : Int) (hl : okG l) (bs : List Nat) (H : List AO) : callD X 4 [S cGazette l, I act, I item, I day] bs H = some (.bool true, H) := by
  obtain ⟨r, h1, h2⟩ := few_fit hl (H.length :: bs) H
  simp only [S] at h1
  rw [callD_eq]
  simp only [Xprim]
  unfold runBody
  simp only [XP, Try.func4, Xan4, Xok4]
  cases r
  · simp [Try.f4, ↓ev_loop, ev, evOps, evOp, wants, req, reqCall, inOf, evOpd, ofConst, ofCell, hands, Ann.mem, Env.get, Env.set, gives, handT, Op.operands, Call.operands, meet, putD, params, AV.strip, keepAt, lookN, Env.keep, binAV, intBinAV, headId, tidy, flagOp, nilConst, List.filterMap_cons, List.filterMap_nil, outOf, resAll, resOf, reifyR, reify, reifyP, clo, cloL, cloLL, cloEnv, loadBox, storeBox, okPut, buildElems, buildCells, int_beq, int_bne, S, h1, awake11]
  · obtain ⟨hf, h8⟩ := h2 rfl
    have h15 := fun bs H => hf.c15 act item bs H
    have h16 := fun bs H => hf.c16 act item bs H
    have h18 := fun bs H => hf.c18 act item bs H
    have h19 := fun bs H => hf.c19 act item bs H
    have h20 := fun bs H => hf.c20 day bs H
    have h21 := fun bs H => hf.c21 day bs H
    have hz : wfI zItem := by simp [zItem, wfI, wfIs, zUnit, wfU, wfUs]
    have hwf : wfI (((itemsOf l).find? (isE act item)).getD zEI).it := by
      cases hfi : (itemsOf l).find? (isE act item) with
      | none => exact hz
      | some d => exact hf.items_wf d (List.mem_of_find?_eq_some hfi)
    have h17 := fun y bs H => eq17 (((itemsOf l).find? (isE act item)).getD zEI) y hwf bs H
    simp only [S, found] at h15 h16 h18 h19 h20 h21
    simp [Try.f4, ↓ev_loop, ev, evOps, evOp, wants, req, reqCall, inOf, evOpd, ofConst, ofCell, hands, Ann.mem, Env.get, Env.set, gives, handT, Op.operands, Call.operands, meet, putD, params, AV.strip, keepAt, lookN, Env.keep, binAV, intBinAV, headId, tidy, flagOp, nilConst, List.filterMap_cons, List.filterMap_nil, outOf, resAll, resOf, reifyR, reify, reifyP, clo, cloL, cloLL, cloEnv, loadBox, storeBox, okPut, buildElems, buildCells, int_beq, int_bne, S, h1, awake11, h15, h16, h17, h18, h19, h20, h21]
end Go.Proofs.Ytlpilgnjlnepeaa.T
namespace Go.Proofs.Ytlpilgnjlnepeaa.T
open Go.VM Go.Proofs
set_option linter.unusedSimpArgs false
set_option maxHeartbeats 16000000

/-! arguments, typed -/
def fldT (P : Program) (t : TypeId) : Option (List TypeId) := match P.underlying t with | some (.struct fs) => some (fs.toList.map (·.type)) | _ => none
theorem good_int {P : Program} {t : TypeId} {k : IntKind} (h : intOf P t = some k) {n : Nat} {cs : List AV} (hg : Go.VM.Good P n t cs) : ∃ i, cs = [.int k i] ∧ (Lit.int k i).wf = true := by
  cases n with
  | zero => exact hg.elim
  | succ n =>
    unfold intOf at h
    simp only [Go.VM.Good] at hg
    split at h
    · rename_i k' hu
      rw [hu] at hg
      injection h with h; subst h; exact hg
    · cases h
theorem good_str {P : Program} {t : TypeId} (h : strOf P t = true) {n : Nat} {cs : List AV} (hg : Go.VM.Good P n t cs) : ∃ s, cs = [.str s] := by
  cases n with
  | zero => exact hg.elim
  | succ n =>
    unfold strOf at h
    simp only [Go.VM.Good] at hg
    split at h
    · rename_i hu
      rw [hu] at hg
      obtain ⟨s, hs, _⟩ := hg; exact ⟨s, hs⟩
    · cases h
theorem good_slc {P : Program} {t e : TypeId} (h : selOf P t = some e) {n : Nat} {cs : List AV} (hg : Go.VM.Good P n t cs) : ∃ m, n = m + 1 ∧ ∃ es, cs = [.slc false es] ∧ es.length * P.bytesOf e ≤ reachBytes ∧ ∀ x ∈ es, Go.VM.Good P m e x := by
  cases n with
  | zero => exact hg.elim
  | succ n =>
    unfold selOf at h
    simp only [Go.VM.Good] at hg
    split at h
    · rename_i e' hu
      rw [hu] at hg
      injection h with h; subst h; exact ⟨n, rfl, hg⟩
    · cases h
theorem good_struct {P : Program} {t : TypeId} {ts : List TypeId} (h : fldT P t = some ts) {n : Nat} {cs : List AV} (hg : Go.VM.Good P n t cs) : ∃ m, n = m + 1 ∧ Go.VM.GoodL (Go.VM.Good P m) ts cs := by
  cases n with
  | zero => exact hg.elim
  | succ n =>
    unfold fldT at h
    simp only [Go.VM.Good] at hg
    split at h
    · rename_i fs hu
      rw [hu] at hg
      injection h with h; subst h; exact ⟨n, rfl, hg⟩
    · cases h
theorem list_dec {α : Type} {c : α → List AV} {w : α → Prop} : ∀ (es : List (List AV)), (∀ x ∈ es, ∃ a, x = c a ∧ w a) → ∃ xs : List α, es = xs.map c ∧ ∀ a ∈ xs, w a := by
  intro es
  induction es with
  | nil => intro _; exact ⟨[], rfl, fun a h => by cases h⟩
  | cons e r ih =>
    intro h
    obtain ⟨a, h1, h2⟩ := h e List.mem_cons_self
    obtain ⟨xs, h3, h4⟩ := ih fun x hx => h x (List.mem_cons_of_mem _ hx)
    exact ⟨a :: xs, by simp [h1, h3], fun b hb => by rcases List.mem_cons.1 hb with rfl | hb; exact h2; exact h4 b hb⟩
theorem slc_dec {α : Type} {c : α → List AV} {w : α → Prop} {t e : TypeId} (h : selOf Try.prog t = some e) (hb : decide (1 ≤ Try.prog.bytesOf e) = true) {n : Nat} {cs : List AV} (hg : Go.VM.Good Try.prog n t cs)
    (hd : ∀ m, m < n → ∀ x, Go.VM.Good Try.prog m e x → ∃ a, x = c a ∧ w a) : ∃ xs : List α, cs = [S c xs] ∧ xs.length ≤ 4000000000000000000 ∧ ∀ a ∈ xs, w a := by
  obtain ⟨m, hm, es, h1, h2, h3⟩ := good_slc h hg
  obtain ⟨xs, h4, h5⟩ := list_dec es fun x hx => hd m (by omega) x (h3 x hx)
  refine ⟨xs, by rw [h1, h4]; rfl, ?_, h5⟩
  have hb' := of_decide_eq_true hb
  have h6 : es.length * 1 ≤ es.length * Try.prog.bytesOf e := Nat.mul_le_mul_left _ hb'
  have h7 : reachBytes ≤ 4000000000000000000 := by decide
  rw [h4, List.length_map] at h6 h2
  omega
theorem ft71 : fldT Try.prog 71 = some [3, 9] := by kernel_rfl
theorem ft32 : fldT Try.prog 32 = some [3, 3, 3] := by kernel_rfl
theorem ft110 : fldT Try.prog 110 = some [3, 3, 3] := by kernel_rfl
theorem ft112 : fldT Try.prog 112 = some [9, 110] := by kernel_rfl
theorem ft39 : fldT Try.prog 39 = some [3, 3, 9] := by kernel_rfl
theorem ft36 : fldT Try.prog 36 = some [32, 3, 9, 33, 33, 34] := by kernel_rfl
theorem ft42 : fldT Try.prog 42 = some [3, 30, 30, 3, 3, 36, 37, 37, 9, 9, 39, 3, 3, 3, 9, 40] := by kernel_rfl
theorem ft57 : fldT Try.prog 57 = some [3, 9, 3, 39, 40] := by kernel_rfl
theorem ft60 : fldT Try.prog 60 = some [3, 3, 9, 54] := by kernel_rfl
theorem b71 : decide (1 ≤ Try.prog.bytesOf 71) = true := by kernel_rfl
theorem b9 : decide (1 ≤ Try.prog.bytesOf 9) = true := by kernel_rfl
theorem b112 : decide (1 ≤ Try.prog.bytesOf 112) = true := by kernel_rfl
theorem b36 : decide (1 ≤ Try.prog.bytesOf 36) = true := by kernel_rfl
theorem b42 : decide (1 ≤ Try.prog.bytesOf 42) = true := by kernel_rfl
theorem b57 : decide (1 ≤ Try.prog.bytesOf 57) = true := by kernel_rfl
theorem b60 : decide (1 ≤ Try.prog.bytesOf 60) = true := by kernel_rfl
theorem decI {n : Nat} {cs : List AV} (h : Go.VM.Good Try.prog n 3 cs) : ∃ i : Int, cs = [I i] := by obtain ⟨i, h, _⟩ := good_int int3 h; exact ⟨i, h⟩
theorem decS {n : Nat} {cs : List AV} (h : Go.VM.Good Try.prog n 9 cs) : ∃ s, cs = [.str s] := good_str str9 h
theorem dec71 {n : Nat} {cs : List AV} (h : Go.VM.Good Try.prog n 71 cs) : ∃ x, cs = cStep x ∧ True := by
  obtain ⟨m, _, a, b, rfl, h1, c, d, rfl, h2, rfl⟩ := good_struct ft71 h
  obtain ⟨k, rfl⟩ := decI h1
  obtain ⟨s, rfl⟩ := decS h2
  exact ⟨⟨k, s⟩, rfl, trivial⟩
theorem dec32 {n : Nat} {cs : List AV} (h : Go.VM.Good Try.prog n 32 cs) : ∃ x, cs = cId x := by
  obtain ⟨m, _, a, b, rfl, h1, c, d, rfl, h2, e, f, rfl, h3, rfl⟩ := good_struct ft32 h
  obtain ⟨k, rfl⟩ := decI h1
  obtain ⟨s, rfl⟩ := decI h2
  obtain ⟨t, rfl⟩ := decI h3
  exact ⟨⟨k, s, t⟩, rfl⟩
theorem dec110 {n : Nat} {cs : List AV} (h : Go.VM.Good Try.prog n 110 cs) : ∃ x, cs = cMark x := by
  obtain ⟨m, _, a, b, rfl, h1, c, d, rfl, h2, e, f, rfl, h3, rfl⟩ := good_struct ft110 h
  obtain ⟨k, rfl⟩ := decI h1
  obtain ⟨s, rfl⟩ := decI h2
  obtain ⟨t, rfl⟩ := decI h3
  exact ⟨⟨k, s, t⟩, rfl⟩
theorem dec39 {n : Nat} {cs : List AV} (h : Go.VM.Good Try.prog n 39 cs) : ∃ x, cs = cStart x := by
  obtain ⟨m, _, a, b, rfl, h1, c, d, rfl, h2, e, f, rfl, h3, rfl⟩ := good_struct ft39 h
  obtain ⟨k, rfl⟩ := decI h1
  obtain ⟨s, rfl⟩ := decI h2
  obtain ⟨t, rfl⟩ := decS h3
  exact ⟨⟨k, s, t⟩, rfl⟩
theorem dec112 {n : Nat} {cs : List AV} (h : Go.VM.Good Try.prog n 112 cs) : ∃ x, cs = cWord x ∧ True := by
  obtain ⟨m, _, a, b, rfl, h1, c, d, rfl, h2, rfl⟩ := good_struct ft112 h
  obtain ⟨k, rfl⟩ := decS h1
  obtain ⟨s, rfl⟩ := dec110 h2
  exact ⟨⟨k, s⟩, rfl, trivial⟩
theorem decStr {n : Nat} {cs : List AV} (h : Go.VM.Good Try.prog n 9 cs) : ∃ x, cs = cStr x ∧ True := by
  obtain ⟨s, rfl⟩ := decS h; exact ⟨s, rfl, trivial⟩
theorem dec36 : ∀ (n : Nat) (cs : List AV), Go.VM.Good Try.prog n 36 cs → ∃ x, cs = cUnit x ∧ wfU x := by
  intro n
  induction n using Nat.strongRecOn with
  | _ n ih =>
    intro cs h
    obtain ⟨m, hm, a1, r1, rfl, h1, a2, r2, rfl, h2, a3, r3, rfl, h3, a4, r4, rfl, h4, a5, r5, rfl, h5, a6, r6, rfl, h6, rfl⟩ := good_struct ft36 h
    obtain ⟨id, rfl⟩ := dec32 h1
    obtain ⟨k, rfl⟩ := decI h2
    obtain ⟨s, rfl⟩ := decS h3
    obtain ⟨hd, rfl, l1, _⟩ := slc_dec sel33 b112 h4 fun m _ x hx => dec112 hx
    obtain ⟨ws, rfl, l2, _⟩ := slc_dec sel33 b112 h5 fun m _ x hx => dec112 hx
    obtain ⟨ks, rfl, l3, w3⟩ := slc_dec sel34 b36 h6 fun j hj x hx => ih j (by omega) x hx
    refine ⟨.mk id k s hd ws ks, ?_, ?_⟩
    · rw [cUnit_eq]; simp [cId, Unit.id, Unit.kind, Unit.label, Unit.head, Unit.words, Unit.kids]
    · rw [wfU_eq]; exact ⟨l1, l2, l3, w3⟩
theorem dec42 : ∀ (n : Nat) (cs : List AV), Go.VM.Good Try.prog n 42 cs → ∃ x, cs = cItem x ∧ wfI x := by
  intro n
  induction n using Nat.strongRecOn with
  | _ n ih =>
    intro cs h
    obtain ⟨m, hm, a1, r1, rfl, h1, a2, r2, rfl, h2, a3, r3, rfl, h3, a4, r4, rfl, h4, a5, r5, rfl, h5, a6, r6, rfl, h6, a7, r7, rfl, h7, a8, r8, rfl, h8, a9, r9, rfl, h9, a10, r10, rfl, h10, a11, r11, rfl, h11, a12, r12, rfl, h12, a13, r13, rfl, h13, a14, r14, rfl, h14, a15, r15, rfl, h15, a16, r16, rfl, h16, rfl⟩ := good_struct ft42 h
    obtain ⟨kind, rfl⟩ := decI h1
    obtain ⟨at_, rfl, l1, _⟩ := slc_dec sel30 b71 h2 fun m _ x hx => dec71 hx
    obtain ⟨to_, rfl, l2, _⟩ := slc_dec sel30 b71 h3 fun m _ x hx => dec71 hx
    obtain ⟨wh, rfl⟩ := decI h4
    obtain ⟨nth, rfl⟩ := decI h5
    obtain ⟨u, rfl, wu⟩ := dec36 _ _ h6
    obtain ⟨old, rfl, l3, _⟩ := slc_dec sel37 b9 h7 fun m _ x hx => decStr hx
    obtain ⟨new, rfl, l4, _⟩ := slc_dec sel37 b9 h8 fun m _ x hx => decStr hx
    obtain ⟨label, rfl⟩ := decS h9
    obtain ⟨for_, rfl⟩ := decS h10
    obtain ⟨start, rfl⟩ := dec39 h11
    obtain ⟨act, rfl⟩ := decI h12
    obtain ⟨item, rfl⟩ := decI h13
    obtain ⟨day, rfl⟩ := decI h14
    obtain ⟨event, rfl⟩ := decS h15
    obtain ⟨by_, rfl, l5, w5⟩ := slc_dec sel40 b42 h16 fun j hj x hx => ih j (by omega) x hx
    refine ⟨.mk kind at_ to_ wh nth u old new label for_ start act item day event by_, ?_, ?_⟩
    · rw [cItem_eq, cUnit_eq]; simp [cStart, Item.kind, Item.at_, Item.to_, Item.where_, Item.nth, Item.unit, Item.old, Item.new, Item.label, Item.for_, Item.start, Item.act, Item.item, Item.day, Item.event, Item.by_]
    · rw [wfI_eq]; exact ⟨l1, l2, l3, l4, wu, l5, w5⟩
theorem dec57 {n : Nat} {cs : List AV} (h : Go.VM.Good Try.prog n 57 cs) : ∃ x, cs = cAct x ∧ wfA x := by
  obtain ⟨m, hm, a1, r1, rfl, h1, a2, r2, rfl, h2, a3, r3, rfl, h3, a4, r4, rfl, h4, a5, r5, rfl, h5, rfl⟩ := good_struct ft57 h
  obtain ⟨k, rfl⟩ := decI h1
  obtain ⟨s, rfl⟩ := decS h2
  obtain ⟨d, rfl⟩ := decI h3
  obtain ⟨st, rfl⟩ := dec39 h4
  obtain ⟨xs, rfl, l5, w5⟩ := slc_dec sel40 b42 h5 fun j hj x hx => dec42 j x hx
  exact ⟨⟨k, s, d, st, xs⟩, by simp [cAct, cStart], l5, w5⟩
theorem dec60 {n : Nat} {cs : List AV} (h : Go.VM.Good Try.prog n 60 cs) : ∃ x, cs = cGazette x ∧ wfG x := by
  obtain ⟨m, hm, a1, r1, rfl, h1, a2, r2, rfl, h2, a3, r3, rfl, h3, a4, r4, rfl, h4, rfl⟩ := good_struct ft60 h
  obtain ⟨k, rfl⟩ := decI h1
  obtain ⟨s, rfl⟩ := decI h2
  obtain ⟨d, rfl⟩ := decS h3
  obtain ⟨xs, rfl, l5, w5⟩ := slc_dec sel54 b57 h4 fun j hj x hx => dec57 hx
  exact ⟨⟨k, s, d, xs⟩, by simp [cGazette], l5, w5⟩
theorem dec22 {n : Nat} {cs : List AV} (h : Go.VM.Good Try.prog n 22 cs) : ∃ l, cs = [S cGazette l] ∧ l.length ≤ 4000000000000000000 ∧ ∀ g ∈ l, wfG g := slc_dec sel22 b60 h fun j hj x hx => dec60 hx
theorem ns22 : fldT Try.prog 22 = none := by kernel_rfl
theorem ns3 : fldT Try.prog 3 = none := by kernel_rfl
theorem goodV_plain {P : Program} {t : TypeId} {x : AV} (h : fldT P t = none) (hg : Go.VM.GoodV P t x) : ∃ n, Go.VM.Good P n t [x] := by
  unfold Go.VM.GoodV at hg
  unfold fldT at h
  split at hg
  · rename_i fs hu; rw [hu] at h; cases h
  · exact hg
theorem goodV_struct {P : Program} {t : TypeId} {x : AV} {ts : List TypeId} (h : fldT P t = some ts) (hg : Go.VM.GoodV P t x) : ∃ n avs, x = .agg avs ∧ Go.VM.Good P n t avs := by
  unfold Go.VM.GoodV at hg
  unfold fldT at h
  split at hg
  · exact hg
  · rename_i hu
    split at h
    · rename_i fs hu'; exact absurd hu' (hu fs)
    · cases h
set_option maxRecDepth 100000 in
theorem argL {x : AV} (h : Go.VM.GoodV Try.prog 22 x) : ∃ l, x = S cGazette l ∧ l.length ≤ 4000000000000000000 ∧ ∀ g ∈ l, wfG g := by
  have h1 : ∃ n, Go.VM.Good Try.prog n 22 [x] := goodV_plain ns22 h
  clear h
  obtain ⟨n, h⟩ := h1
  obtain ⟨l, h1, h2⟩ := dec22 h
  injection h1 with h1; exact ⟨l, h1, h2⟩
set_option maxRecDepth 100000 in
theorem argI {x : AV} (h : Go.VM.GoodV Try.prog 3 x) : ∃ n : Int, x = I n := by
  have h1 : ∃ n, Go.VM.Good Try.prog n 3 [x] := goodV_plain ns3 h
  clear h
  obtain ⟨n, h⟩ := h1
  obtain ⟨l, h1⟩ := decI h
  injection h1 with h1; exact ⟨l, h1⟩
set_option maxRecDepth 100000 in
theorem argG {x : AV} (h : Go.VM.GoodV Try.prog 60 x) : ∃ g, x = .agg (cGazette g) ∧ wfG g := by
  have h1 : ∃ n avs, x = .agg avs ∧ Go.VM.Good Try.prog n 60 avs := goodV_struct ft60 h
  clear h
  obtain ⟨n, avs, rfl, h⟩ := h1
  obtain ⟨g, rfl, h2⟩ := dec60 h
  exact ⟨g, rfl, h2⟩
end Go.Proofs.Ytlpilgnjlnepeaa.T
namespace Go.Proofs.Ytlpilgnjlnepeaa.T
open Go.VM Go.Proofs
def tyS : List TypeId := [22, 60, 3, 9, 54, 57, 39, 40, 42, 30, 71, 36, 32, 33, 112, 110, 34, 37, 5, 26, 44, 66, 77, 4]
theorem own : ownKnob Try.prog.godebug = none := by kernel_rfl
theorem mixed : X.P.follows .mixedOrders = true := by kernel_rfl
theorem closed : closedT X.P tyS = true := by kernel_rfl
theorem laid : laidOutB X.P = true := by kernel_rfl
theorem codes : okL.all (fun f => match Try.prog.funcs[f]? with | some fn => (match fn.body with | some c => fn.name != "runtime.NumGoroutine" && codeOk (anL.getD f {}) fn.ntmps c | none => true) | none => true) = true := by kernel_rfl
theorem good : ∀ f, X.ok f = true → ∀ fn c, X.P.funcs[f]? = some fn → fn.body = some c → fn.name ≠ "runtime.NumGoroutine" ∧ codeOk (X.an f) fn.ntmps c = true := by
  intro f hf fn c h1 h2
  have := List.all_eq_true.1 codes f (by simpa [X] using hf)
  simp only [show Try.prog.funcs[f]? = some fn from h1, h2, Bool.and_eq_true, bne_iff_ne, ne_eq] at this
  exact this
end Go.Proofs.Ytlpilgnjlnepeaa.T
