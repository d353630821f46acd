/-
  The abstract machine, part F.
-/
import Derived.Test.YtlpilgnjlnepeaaME
set_option linter.all false
namespace Go.VM
variable {P : Program} {G : GS} {w : World} {St : Sts}

theorem two_of {α β : Type} {f : α → β} {x y : α} {a b : β} (h : [x, y].map f = [a, b]) : f x = a ∧ f y = b := by simpa using h

/-! ### reckoning -/
theorem run_intBin {op : BinOp} {k : IntKind} {a b : Int} {v : AV} (t : TypeId) (h : intBinAV op k a b = some v) : ∃ cv, (binOp op t (.int k a) (.int k b)).run P w = .ok cv w ∧ VR G w St v cv := by
  unfold intBinAV at h
  cases op <;> simp only at h
  case add => injection h with h; subst h; exact ⟨.int k (k.wrap (a + b)), by simp [binOp, Op.intArith], .int _ _⟩
  case sub => injection h with h; subst h; exact ⟨.int k (k.wrap (a - b)), by simp [binOp, Op.intArith], .int _ _⟩
  case mul => injection h with h; subst h; exact ⟨.int k (k.wrap (a * b)), by simp [binOp, Op.intArith], .int _ _⟩
  case quo =>
    split at h
    · cases h
    · rename_i hb; injection h with h; subst h; exact ⟨.int k (k.wrap (a.tdiv b)), by simp [binOp, Op.intDiv, hb], .int _ _⟩
  case rem =>
    split at h
    · cases h
    · rename_i hb; injection h with h; subst h; exact ⟨.int k (a.tmod b), by simp [binOp, Op.intDiv, hb], .int _ _⟩
  case and => injection h with h; subst h; exact ⟨.int k (k.wrap (BitVec.ofInt k.bits a &&& BitVec.ofInt k.bits b).toNat), by simp [binOp, Op.intBits], .int _ _⟩
  case or => injection h with h; subst h; exact ⟨.int k (k.wrap (BitVec.ofInt k.bits a ||| BitVec.ofInt k.bits b).toNat), by simp [binOp, Op.intBits], .int _ _⟩
  case xor => injection h with h; subst h; exact ⟨.int k (k.wrap (BitVec.ofInt k.bits a ^^^ BitVec.ofInt k.bits b).toNat), by simp [binOp, Op.intBits], .int _ _⟩
  case shl =>
    split at h
    · rename_i hb; injection h with h; subst h
      exact ⟨.int k (k.wrap (a * 2 ^ (min b.toNat k.bits))), by have : ¬ b < 0 := by omega
                                                                simp [binOp, Op.shift, this], .int _ _⟩
    · cases h
  case shr =>
    split at h
    · rename_i hb; injection h with h; subst h
      exact ⟨.int k (a.fdiv (2 ^ (min b.toNat k.bits))), by have : ¬ b < 0 := by omega
                                                            simp [binOp, Op.shift, this], .int _ _⟩
    · cases h
  case eql => injection h with h; subst h; exact ⟨.bool (a == b), by simp [binOp, Op.intCmp], .bool _⟩
  case neq => injection h with h; subst h; exact ⟨.bool (a != b), by simp [binOp, Op.intCmp], .bool _⟩
  case lss => injection h with h; subst h; exact ⟨.bool (decide (a < b)), by simp [binOp, Op.intCmp], .bool _⟩
  case leq => injection h with h; subst h; exact ⟨.bool (decide (a ≤ b)), by simp [binOp, Op.intCmp], .bool _⟩
  case gtr => injection h with h; subst h; exact ⟨.bool (decide (a > b)), by simp [binOp, Op.intCmp], .bool _⟩
  case geq => injection h with h; subst h; exact ⟨.bool (decide (a ≥ b)), by simp [binOp, Op.intCmp], .bool _⟩
  all_goals cases h
theorem run_strBin {op : BinOp} {a b : ByteArray} {v : AV} (t : TypeId) (h : strCmpAV op a b = some v) : ∃ cv, (binOp op t (.string a) (.string b)).run P w = .ok cv w ∧ VR G w St v cv := by
  unfold strCmpAV at h
  cases op <;> simp only at h
  case add =>
    split at h
    · rename_i hb
      injection h with h; subst h
      refine ⟨.string (a ++ b), ?_, .str _⟩
      have : ¬ (9223372036854775807 < ((a.size : Int) + (b.size : Int))) := by omega
      simp [binOp, Op.stringOp, this]
    · cases h
  case eql => injection h with h; subst h; exact ⟨.bool (a.toList == b.toList), by simp [binOp, Op.stringOp], .bool _⟩
  case neq => injection h with h; subst h; exact ⟨.bool (!(a.toList == b.toList)), by simp [binOp, Op.stringOp], .bool _⟩
  case lss => injection h with h; subst h; exact ⟨.bool (Op.bytesLess a.toList b.toList), by simp [binOp, Op.stringOp], .bool _⟩
  case leq => injection h with h; subst h; exact ⟨.bool (Op.bytesLess a.toList b.toList || a.toList == b.toList), by simp [binOp, Op.stringOp], .bool _⟩
  case gtr => injection h with h; subst h; exact ⟨.bool (!(Op.bytesLess a.toList b.toList || a.toList == b.toList)), by simp [binOp, Op.stringOp], .bool _⟩
  case geq => injection h with h; subst h; exact ⟨.bool (!(Op.bytesLess a.toList b.toList)), by simp [binOp, Op.stringOp], .bool _⟩
  all_goals cases h
theorem eqGuard_plain {op : BinOp} {t : TypeId} {x y : Operand} {u v : Value} (hu : u ≠ .nilIface) (h : (∃ cs, u = .agg cs) → P.eqGuardType P.depth t = false) : (eqGuard op t x y u v).run P w = .ok () w := by
  cases u with
  | agg cs =>
    cases v with
    | agg ds => exact run_eqGuard_agg w op t x y cs ds (h ⟨cs, rfl⟩)
    | _ => cases op <;> rfl
  | nilIface => exact absurd rfl hu
  | _ => cases op <;> rfl
theorem run_binAV {op : BinOp} {t : TypeId} {x y : AV} {u v : Value} {r : AV} (ox oy : Operand) (h : binAV P op t x y = some r) (hx : VR G w St x u) (hy : VR G w St y v) :
    ∃ cv, (do eqGuard op t ox oy u v; binOp op t u v : Sem Value).run P w = .ok cv w ∧ VR G w St r cv := by
  unfold binAV at h
  split at h
  · rename_i k a k' b
    split at h
    · rename_i hk
      subst hk
      obtain rfl := hx.inv_int
      obtain rfl := hy.inv_int
      obtain ⟨cv, h1, h2⟩ := run_intBin (w := w) (G := G) (St := St) (P := P) t h
      refine ⟨cv, ?_, h2⟩
      rw [Sem.run_bind, eqGuard_plain (by simp) (by rintro ⟨cs, h⟩; cases h), Result.andThen_ok, h1]
    · cases h
  · rename_i a b
    obtain rfl := hx.inv_str
    obtain rfl := hy.inv_str
    obtain ⟨cv, h1, h2⟩ := run_strBin (w := w) (G := G) (St := St) (P := P) t h
    refine ⟨cv, ?_, h2⟩
    rw [Sem.run_bind, eqGuard_plain (by simp) (by rintro ⟨cs, h⟩; cases h), Result.andThen_ok, h1]
  · rename_i x0 y0 n1 n2
    have main : ∀ b, eqAV P t x y = some b → (op = .eql ∨ op = .neq) → ∃ cv, (do eqGuard op t ox oy u v; binOp op t u v : Sem Value).run P w = .ok cv w ∧ cv = .bool (if op = .eql then b else !b) := by
      intro b hb hop
      obtain ⟨h1, h2⟩ := run_eqAV (w := w) hb hx hy
      have hform : ((∃ a, u = .bool a) ∧ ∃ b, v = .bool b) ∨ ((∃ a, u = .agg a) ∧ ∃ b, v = .agg b) := by
        unfold eqAV at hb
        split at hb
        · split at hb
          · obtain ⟨us, rfl, _⟩ := hx.inv_agg
            obtain ⟨vs, rfl, _⟩ := hy.inv_agg
            exact .inr ⟨⟨_, rfl⟩, _, rfl⟩
          · cases hb
        · unfold eqCell at hb
          split at hb
          · split at hb
            · rename_i hk
              exact (n1 _ _ _ _ rfl rfl).elim
            · cases hb
          · obtain rfl := hx.inv_bool
            obtain rfl := hy.inv_bool
            exact .inl ⟨⟨_, rfl⟩, _, rfl⟩
          · exact (n2 _ _ rfl rfl).elim
          · cases hb
        · cases hb
      refine ⟨_, ?_, rfl⟩
      rw [Sem.run_bind, eqGuard_plain (by rcases hform with ⟨⟨a, rfl⟩, _⟩ | ⟨⟨a, rfl⟩, _⟩ <;> simp) h2, Result.andThen_ok]
      rcases hform with ⟨⟨a, rfl⟩, c, rfl⟩ | ⟨⟨a, rfl⟩, c, rfl⟩ <;> rcases hop with rfl | rfl <;> simp [binOp, h1]
    cases op <;> simp only at h
    case eql =>
      split at h
      · rename_i b hb
        injection h with h; subst h
        obtain ⟨cv, h1, rfl⟩ := main b hb (by simp)
        exact ⟨_, h1, by simpa using VR.bool b⟩
      · cases h
    case neq =>
      split at h
      · rename_i b hb
        injection h with h; subst h
        obtain ⟨cv, h1, rfl⟩ := main b hb (by simp)
        exact ⟨_, h1, by simpa using VR.bool (!b)⟩
      · cases h
    all_goals cases h

/-! ### building a struct -/
theorem splice_get {α : Type} (cs : List α) (off : Nat) (news : List α) (h : off + news.length ≤ cs.length) (i : Nat) :
    (splice cs off news)[i]? = if i < off then cs[i]? else if i < off + news.length then news[i - off]? else cs[i]? := by
  unfold splice
  rw [List.append_assoc]
  by_cases h1 : i < off
  · rw [if_pos h1, List.getElem?_append_left (by rw [List.length_take]; omega), List.getElem?_take_of_lt h1]
  · rw [if_neg h1, List.getElem?_append_right (by rw [List.length_take]; omega), List.length_take, Nat.min_eq_left (by omega)]
    by_cases h2 : i < off + news.length
    · rw [if_pos h2, List.getElem?_append_left (by omega)]
    · rw [if_neg h2, List.getElem?_append_right (by omega), List.getElem?_drop]
      congr 1
      omega
theorem fold_set (off : Nat) : ∀ (l : List Value) (k : Nat) (cs : Array Value), off + k + l.length ≤ cs.size →
    ((l.zipIdx k).foldl (fun (cs : Array Value) (x : Value × Nat) => cs.setIfInBounds (off + x.2) x.1) cs).toList = splice cs.toList (off + k) l
  | [], k, cs, _ => by simp [splice]
  | v :: l, k, cs, h => by
    simp only [List.zipIdx_cons, List.foldl_cons]
    simp only [List.length_cons] at h
    have hlen : cs.toList.length = cs.size := Array.length_toList ..
    rw [fold_set off l (k + 1) _ (by rw [Array.size_setIfInBounds]; omega)]
    apply List.ext_getElem?
    intro i
    rw [Array.toList_setIfInBounds, splice_get _ _ _ (by rw [List.length_set]; omega), splice_get _ _ _ (by rw [List.length_cons]; omega), List.length_cons]
    rcases Nat.lt_trichotomy i (off + k) with hi | hi | hi
    · rw [if_pos (by omega), if_pos hi, List.getElem?_set_ne (by omega)]
    · rw [if_pos (by omega), if_neg (by omega), if_pos (by omega), hi, List.getElem?_set_self (by omega)]
      simp
    · rw [if_neg (show ¬ i < off + (k + 1) by omega), if_neg (show ¬ i < off + k by omega)]
      by_cases h2 : i < off + k + (l.length + 1)
      · rw [if_pos (show i < off + (k + 1) + l.length by omega), if_pos h2, show i - (off + k) = (i - (off + (k + 1))) + 1 by omega, List.getElem?_cons_succ]
      · rw [if_neg (show ¬ i < off + (k + 1) + l.length by omega), if_neg h2, List.getElem?_set_ne (by omega)]
theorem fit_cells {t : TypeId} {x : AV} {v : Value} {cs : List AV} (h : fitCells P t x = some cs) (hx : VR G w St x v) : v.cells.size = szOf P t ∧ Cells G w St cs v.cells := by
  unfold fitCells at h
  simp only at h
  split at h
  · rename_i hc
    injection h with h
    subst h
    obtain ⟨hl, _, hone⟩ := hc
    have one : x.one = true → v.cells = #[v] := fun ho => by
      have := hx.one ho
      cases v <;> first | rfl | (simp [Value.oneCell'] at this)
    cases x with
    | agg cs =>
      obtain ⟨us, rfl, s1, s2, s3⟩ := hx.inv_agg
      simp only [AV.cells, List.length_map] at hl
      refine ⟨s1.trans hl, by simp [AV.cells, Value.cells, s1], s2, fun i x u hx hu => ?_⟩
      simp only [AV.cells, List.getElem?_map] at hx
      cases hc : cs[i]? with
      | none => simp [hc] at hx
      | some c => simp [hc] at hx; subst hx; exact (s3 i c u hc hu).strip
    | _ =>
      simp only [AV.cells, List.all_cons, List.all_nil, Bool.and_true, List.length_singleton] at hl hone
      rw [one hone]
      refine ⟨by simpa using hl, by simp [AV.cells], by simpa using hx.one hone, fun i x u h1 h2 => ?_⟩
      cases i with
      | zero => simp [AV.cells] at h1 h2; subst h1 h2; exact hx
      | succ i => simp [AV.cells] at h1
  · cases h
theorem fit_pos {t : TypeId} {x : AV} {cs : List AV} (h : fitCells P t x = some cs) : szOf P t ≠ 0 ∧ cs = x.cells ∧ cs.length = szOf P t := by
  unfold fitCells at h
  simp only at h
  split at h
  · rename_i hc
    injection h with h
    subst h
    exact ⟨hc.1 ▸ hc.2.1, rfl, hc.1⟩
  · cases h
theorem Cells.splice {cs news : List AV} {us vs : Array Value} {off : Nat} (h : Cells G w St cs us) (k : Cells G w St news vs) (hl : off + news.length ≤ cs.length) {r : Array Value} (hr : r.toList = VM.splice us.toList off vs.toList) : Cells G w St (VM.splice cs off news) r := by
  have hus : us.toList.length = cs.length := by rw [Array.length_toList]; exact h.1
  have hvs : vs.toList.length = news.length := by rw [Array.length_toList]; exact k.1
  refine ⟨?_, ?_, ?_⟩
  · rw [← Array.length_toList, hr]; simp only [VM.splice, List.length_append, List.length_take, List.length_drop, hvs, hus]
  · intro v hv
    have : v ∈ r.toList := by simpa using hv
    rw [hr] at this
    simp only [VM.splice, List.mem_append] at this
    rcases this with (h1 | h1) | h1
    · exact h.2.1 v (by simpa using List.mem_of_mem_take h1)
    · exact k.2.1 v (by simpa using h1)
    · exact h.2.1 v (by simpa using List.mem_of_mem_drop h1)
  · intro i x u hx hu
    rw [← Array.getElem?_toList, hr, splice_get _ _ _ (by omega)] at hu
    rw [splice_get _ _ _ hl] at hx
    rw [hvs] at hu
    by_cases h1 : i < off
    · rw [if_pos h1] at hx hu
      exact h.2.2 i x u hx (by simpa using hu)
    · rw [if_neg h1] at hx hu
      by_cases h2 : i < off + news.length
      · rw [if_pos h2] at hx hu
        exact k.2.2 _ x u hx (by simpa using hu)
      · rw [if_neg h2] at hx hu
        exact h.2.2 _ x u hx (by simpa using hu)
theorem run_buildCells {t : TypeId} {fs : Array Field} (hu : P.underlying t = some (.struct fs)) (place : Nat → Option (Nat × Nat)) (hpl : ∀ i fd, fs[i]? = some fd → place i = some (fd.offset, szOf P fd.type)) :
    ∀ (l : List (Nat × AV)) (m : List (Nat × Value)) (cs : List AV) (us : Array Value) (r : List AV), buildCells P t l cs = some r → l.map (·.1) = m.map (·.1) → (∀ (i : Nat) (x : Nat × AV) (y : Nat × Value), l[i]? = some x → m[i]? = some y → VR G w St x.2 y.2) → Cells G w St cs us →
      ∃ arr, Instr.fill place us m = some arr ∧ Cells G w St r arr
  | [], [], cs, us, r, h, _, _, hc => by
    simp only [buildCells, Option.some.injEq] at h
    subst h
    exact ⟨us, rfl, hc⟩
  | (i, x) :: l, (i', y) :: m, cs, us, r, h, hm, hr, hc => by
    simp only [List.map_cons, List.cons.injEq] at hm
    obtain ⟨rfl, hm⟩ := hm
    simp only [buildCells] at h
    split at h
    · rename_i off ft hf
      split at h
      · rename_i news hn
        split at h
        · rename_i hl
          obtain ⟨fs', fd, e1, e2, rfl, rfl⟩ := fldOf_some hf
          rw [hu] at e1
          injection e1 with e1
          injection e1 with e1
          subst e1
          obtain ⟨g1, g2⟩ := fit_cells (w := w) (G := G) (St := St) hn (hr 0 _ _ rfl rfl)
          have hsz : y.cells.size = news.length := g2.1
          have hbnd : fd.offset + 0 + y.cells.toList.length ≤ us.size := by rw [Array.length_toList, hc.1]; omega
          simp only [Instr.fill, hpl _ _ e2]
          rw [if_neg (by simp only [Bool.or_eq_true, decide_eq_true_eq, not_or]; refine ⟨by simpa using g1, ?_⟩; rw [hc.1]; omega)]
          refine run_buildCells hu place hpl l m _ _ r h hm (fun j x y h1 h2 => hr (j + 1) x y (by simpa using h1) (by simpa using h2)) (Cells.splice (off := fd.offset) hc g2 (by omega) ?_)
          have := fold_set fd.offset y.cells.toList 0 us hbnd
          rw [← Array.foldl_toList, Array.toList_zipIdx]
          simpa using this
        · cases h
      · cases h
    · cases h
  | [], y :: m, _, _, _, _, hm, _, _ => by simp at hm
  | x :: l, [], _, _, _, _, hm, _, _ => by simp at hm
theorem zr_some {t : TypeId} {z : List AV} (h : zrOf P t = some z) : ∃ i zv, P.info? t = some i ∧ i.zero = some zv ∧ zv.cells.size = szOf P t ∧ z.length = szOf P t ∧ Cells G w St z zv.cells ∧ z = zv.cells.toList.map ofCell := by
  unfold zrOf at h
  split at h
  · rename_i i hi
    split at h
    · rename_i zv hz
      split at h
      · rename_i hc
        injection h with h
        simp only [Bool.and_eq_true, beq_iff_eq] at hc
        have hs : zv.cells.size = szOf P t := by simp [szOf, hi, hc.2]
        refine ⟨i, zv, hi, hz, hs, by rw [← h]; simp [hs], ⟨by rw [← h]; simp, ?_, ?_⟩, h.symm⟩
        · intro v hv
          exact oneCell_of_ofCell (List.all_eq_true.1 hc.1 v (by simpa using hv))
        · intro j x u hx hu
          rw [← h] at hx
          simp only [List.getElem?_map, Array.getElem?_toList] at hx
          rw [hu] at hx
          simp at hx
          subst hx
          exact VR.ofCell u
      · cases h
    · cases h
  · cases h
end Go.VM
