/-
  The abstract machine, part E.
-/
import Derived.Test.YtlpilgnjlnepeaaMD
set_option linter.all false
namespace Go.VM
variable {P : Program} {G : GS} {w : World} {St : Sts}

theorem eqCells_length : ∀ {ks : List EqK} {xs ys : List AV} {b : Bool}, eqCells ks xs ys = some b → xs.length = ks.length ∧ ys.length = ks.length
  | [], [], [], b, _ => ⟨rfl, rfl⟩
  | k :: ks, x :: xs, y :: ys, b, h => by
    simp only [eqCells] at h
    split at h
    · rename_i h1 h2
      have := eqCells_length h2
      simp [this.1, this.2]
    · cases h
  | [], x :: xs, _, b, h => by simp [eqCells] at h
  | [], [], y :: ys, b, h => by simp [eqCells] at h
  | k :: ks, [], _, b, h => by simp [eqCells] at h
  | k :: ks, x :: xs, [], b, h => by simp [eqCells] at h
theorem eqCells_append : ∀ (ks ls : List EqK) (a b c d : List AV) (r : Bool), eqCells (ks ++ ls) (a ++ c) (b ++ d) = some r → a.length = ks.length → b.length = ks.length →
    ∃ x y, eqCells ks a b = some x ∧ eqCells ls c d = some y ∧ r = (x && y)
  | [], ls, [], [], c, d, r, h, _, _ => ⟨true, r, rfl, h, by simp⟩
  | k :: ks, ls, x :: a, y :: b, c, d, r, h, h1, h2 => by
    simp only [List.cons_append, eqCells] at h
    split at h
    · rename_i e f he hf
      injection h with h
      obtain ⟨p, q, hp, hq, hf2⟩ := eqCells_append ks ls a b c d f hf (by simpa using h1) (by simpa using h2)
      refine ⟨e && p, q, by simp [eqCells, he, hp], hq, ?_⟩
      rw [← h, hf2, Bool.and_assoc]
    · cases h
  | [], _, _ :: _, _, _, _, _, _, h1, _ => by simp at h1
  | [], _, [], _ :: _, _, _, _, _, _, h2 => by simp at h2
  | _ :: _, _, [], _, _, _, _, _, h1, _ => by simp at h1
  | _ :: _, _, _ :: _, [], _, _, _, _, _, h2 => by simp at h2
/-- Cells that stand to cells. -/
def Cells (G : GS) (w : World) (St : Sts) (xs : List AV) (us : Array Value) : Prop :=
  us.size = xs.length ∧ (∀ v ∈ us, v.oneCell' = true) ∧ ∀ (i : Nat) (x : AV) (u : Value), xs[i]? = some x → us[i]? = some u → VR G w St x u
theorem Cells.extract {xs us} (h : Cells G w St xs us) (a b : Nat) : Cells G w St (xs.extract a b) (us.extract a b) := by
  refine ⟨by simp [List.extract_eq_take_drop, h.1]; omega, ?_, fun i x u hx hu => ?_⟩
  · intro v hv
    obtain ⟨i, hi, he⟩ := Array.mem_iff_getElem.1 hv
    have : v = us[a + i]'(by simp at hi; omega) := by simpa using he.symm
    exact h.2.1 v (by rw [this]; exact Array.getElem_mem _)
  · rw [Array.getElem?_extract] at hu
    split at hu
    · rename_i hi
      simp only [List.extract_eq_take_drop] at hx
      have hlt : i < (List.take (b - a) (List.drop a xs)).length := (List.getElem?_eq_some_iff.1 hx).1
      simp only [List.length_take, List.length_drop] at hlt
      rw [List.getElem?_take_of_lt (by omega), List.getElem?_drop] at hx
      exact h.2.2 (a + i) x u hx hu
    · cases hu
def aggD (d : TypeDesc) : Bool := match d with | .struct _ | .array _ _ => true | _ => false
theorem aggOf_of {t : TypeId} {d : TypeDesc} (h : P.underlying t = some d) : aggOf P t = some (aggD d) := by
  unfold aggOf
  rw [h]
  cases d <;> rfl
theorem extract_split {α : Type} (xs : List α) (a m n : Nat) : xs.extract a (a + (m + n)) = xs.extract a (a + m) ++ xs.extract (a + m) (a + (m + n)) := by
  simp only [List.extract_eq_take_drop]
  rw [show a + (m + n) - a = m + n by omega, show a + m - a = m by omega, show a + (m + n) - (a + m) = n by omega]
  rw [List.take_add, List.drop_drop]
theorem run_eqK : ∀ (d : Nat) (t : TypeId) (n : Nat) (ks : List EqK), eqK P d t = some ks → d ≤ n → ∀ (xs ys : List AV) (us vs : Array Value) (off : Nat) (b : Bool), Cells G w St xs us → Cells G w St ys vs →
    off + ks.length ≤ xs.length → off + ks.length ≤ ys.length → eqCells ks (xs.extract off (off + ks.length)) (ys.extract off (off + ks.length)) = some b →
    ∃ p q, (part t us off).run P w = .ok p w ∧ (part t vs off).run P w = .ok q w ∧ (Op.equalIn n t p q).run P w = .ok b w
  | 0, t, n, ks, h, _, _, _, _, _, _, _, _, _, _, _, _ => by simp [eqK] at h
  | d + 1, t, 0, ks, h, hn, _, _, _, _, _, _, _, _, _, _, _ => by omega
  | d + 1, t, n + 1, ks, h, hn, xs, ys, us, vs, off, b, hx, hy, hlx, hly, hb => by
    have cell : ∀ k, ks = [k] → ∀ dsc, P.underlying t = some dsc → aggOf P t = some false → ∃ x y u v, eqCell k x y = some b ∧ VR G w St x u ∧ VR G w St y v ∧ (part t us off).run P w = .ok u w ∧ (part t vs off).run P w = .ok v w := by
      intro k hk dsc hd ha
      subst hk
      simp only [List.length_singleton] at hlx hly hb
      have e1 : xs.extract off (off + 1) = [xs[off]] := by simp [List.extract_eq_take_drop, List.take_one, List.getElem?_eq_getElem (show off < xs.length by omega), List.head?_drop]
      have e2 : ys.extract off (off + 1) = [ys[off]] := by simp [List.extract_eq_take_drop, List.take_one, List.getElem?_eq_getElem (show off < ys.length by omega), List.head?_drop]
      rw [e1, e2] at hb
      have h1 : off < us.size := by rw [hx.1]; omega
      have h2 : off < vs.size := by rw [hy.1]; omega
      refine ⟨xs[off], ys[off], us[off], vs[off], ?_, hx.2.2 off _ _ (by simp [List.getElem?_eq_getElem (show off < xs.length by omega)]) (by simp [h1]), hy.2.2 off _ _ (by simp [List.getElem?_eq_getElem (show off < ys.length by omega)]) (by simp [h2]), ?_, ?_⟩
      · simp only [eqCells] at hb
        split at hb
        · rename_i e f he hf
          injection hf with hf
          subst hf
          rw [he, ← hb]
          simp
        · cases hb
      · unfold part; rw [Sem.run_bind, run_isAgg ha]; simp [h1]
      · unfold part; rw [Sem.run_bind, run_isAgg ha]; simp [h2]
    simp only [eqK] at h
    split at h
    · rename_i k hu
      injection h with h
      obtain ⟨x, y, u, v, he, r1, r2, r3, r4⟩ := cell _ h.symm _ hu (aggOf_of hu)
      refine ⟨u, v, r3, r4, ?_⟩
      unfold eqCell at he
      split at he
      · rename_i k0 k1 a k2 b' heq
        injection heq with heq
        subst heq
        split at he
        · rename_i hk
          injection he with he
          obtain ⟨rfl, rfl⟩ := hk
          obtain rfl := r1.inv_int
          obtain rfl := r2.inv_int
          rw [← he]
          exact run_equalIn_int w n t _ _ _ _ hu
        · cases he
      · rename_i heq; cases heq
      · rename_i heq; cases heq
      · cases he
    · rename_i hu
      injection h with h
      obtain ⟨x, y, u, v, he, r1, r2, r3, r4⟩ := cell _ h.symm _ hu (aggOf_of hu)
      refine ⟨u, v, r3, r4, ?_⟩
      unfold eqCell at he
      split at he
      · rename_i heq; cases heq
      · rename_i a b' heq
        injection he with he
        obtain rfl := r1.inv_bool
        obtain rfl := r2.inv_bool
        rw [← he]
        exact run_equalIn_bool' w n t _ _ hu
      · rename_i heq; cases heq
      · cases he
    · rename_i hu
      injection h with h
      obtain ⟨x, y, u, v, he, r1, r2, r3, r4⟩ := cell _ h.symm _ hu (aggOf_of hu)
      refine ⟨u, v, r3, r4, ?_⟩
      unfold eqCell at he
      split at he
      · rename_i heq; cases heq
      · rename_i heq; cases heq
      · rename_i a b' heq
        injection he with he
        obtain rfl := r1.inv_str
        obtain rfl := r2.inv_str
        rw [← he, beq_toListBytes]
        exact run_equalIn_string w n t _ _ hu
      · cases he
    · rename_i fs hu
      split at h
      · cases h
      · rename_i hst
        split at h
        · rename_i ks' hks
          split at h
          · rename_i hsz
            injection h with h
            subst h
            have ha : aggOf P t = some true := aggOf_of hu
            refine ⟨.agg (us.extract off (off + szOf P t)), .agg (vs.extract off (off + szOf P t)), ?_, ?_, ?_⟩
            · unfold part; rw [Sem.run_bind, run_isAgg ha]; simp [run_sizeOf_a (w := w) ha]
            · unfold part; rw [Sem.run_bind, run_isAgg ha]; simp [run_sizeOf_a (w := w) ha]
            · have hf : P.fieldsOf t = fs := by simp [Program.fieldsOf, hu]
              rw [run_equalIn_struct w n t _ _ (by rw [hf]; exact hu) (by simpa using hst), hf]
              have hX := hx.extract off (off + szOf P t)
              have hY := hy.extract off (off + szOf P t)
              rw [hsz] at hb hlx hly
              have key : ∀ (l : List Field) (o : Nat) (ls : List EqK) (r : Bool), eqFs P (eqK P d) o l = some ls → o + ls.length ≤ (xs.extract off (off + szOf P t)).length → o + ls.length ≤ (ys.extract off (off + szOf P t)).length →
                  eqCells ls ((xs.extract off (off + szOf P t)).extract o (o + ls.length)) ((ys.extract off (off + szOf P t)).extract o (o + ls.length)) = some r →
                  (Op.eqFields n (us.extract off (off + szOf P t)) (vs.extract off (off + szOf P t)) l).run P w = .ok r w := by
                intro l
                induction l with
                | nil =>
                  intro o ls r hl h1 h2 h3
                  simp only [eqFs, Option.some.injEq] at hl
                  subst hl
                  simp only [List.extract_eq_take_drop, List.length_nil, Nat.add_zero, Nat.sub_self, List.take_zero, eqCells, Option.some.injEq] at h3
                  subst h3
                  simp [Op.eqFields]
                | cons f l ih =>
                  intro o ls r hl h1 h2 h3
                  simp only [eqFs] at hl
                  split at hl
                  · rename_i hfo
                    obtain ⟨hname, hoff⟩ := hfo
                    split at hl
                    · rename_i kf hkf
                      split at hl
                      · rename_i kr hkr
                        injection hl with hl
                        subst hl
                        simp only [List.length_append] at h1 h2 h3
                        rw [extract_split, extract_split] at h3
                        obtain ⟨e1, e2, q1, q2, q3⟩ := eqCells_append _ _ _ _ _ _ _ h3 (by simp only [List.extract_eq_take_drop, List.length_take, List.length_drop] at h1 ⊢; omega) (by simp only [List.extract_eq_take_drop, List.length_take, List.length_drop] at h2 ⊢; omega)
                        obtain ⟨p, q, g1, g2, g3⟩ := run_eqK d f.type n kf hkf (by omega) _ _ _ _ o e1 hX hY (by omega) (by omega) q1
                        have hrest := ih (o + kf.length) kr e2 hkr (by omega) (by omega) (by rw [Nat.add_assoc]; exact q2)
                        subst q3
                        unfold Op.eqFields
                        rw [if_pos hname, hoff]
                        simp only [Sem.run_bind, g1, g2, g3, Result.andThen_ok]
                        cases e1 with
                        | false => simp
                        | true => simpa using hrest
                      · cases hl
                    · cases hl
                  · cases hl
              refine key fs.toList 0 ks' b hks ?_ ?_ ?_
              · simp only [List.extract_eq_take_drop, List.length_take, List.length_drop, hsz]; omega
              · simp only [List.extract_eq_take_drop, List.length_take, List.length_drop, hsz]; omega
              · have hX0 : (xs.extract off (off + szOf P t)).extract 0 (0 + ks'.length) = xs.extract off (off + szOf P t) := by
                  simp only [List.extract_eq_take_drop, hsz, List.drop_zero]; rw [List.take_take]; congr 1; omega
                have hY0 : (ys.extract off (off + szOf P t)).extract 0 (0 + ks'.length) = ys.extract off (off + szOf P t) := by
                  simp only [List.extract_eq_take_drop, hsz, List.drop_zero]; rw [List.take_take]; congr 1; omega
                rw [hX0, hY0]; exact hb
          · cases h
        · cases h
    · cases h
theorem run_eqAV {t : TypeId} {x y : AV} {u v : Value} {b : Bool} (h : eqAV P t x y = some b) (hx : VR G w St x u) (hy : VR G w St y v) : (Op.equal t u v).run P w = .ok b w ∧ ((∃ cs, u = .agg cs) → P.eqGuardType P.depth t = false) := by
  unfold eqAV eqTy at h
  cases hk : eqK P 8 t with
  | none => simp [hk] at h
  | some ks =>
    simp only [hk] at h
    cases hg : P.eqGuardType P.depth t with
    | true => simp [hg] at h
    | false =>
      refine ⟨?_, fun _ => rfl⟩
      simp only [hg, Bool.false_eq_true, if_false] at h
      unfold Op.equal
      split at h
      · rename_i ks' hks ha
        injection hks with hks
        subst hks
        split at h
        · rename_i xs ys
          obtain ⟨us, rfl, s1, s2, s3⟩ := hx.inv_agg
          obtain ⟨vs, rfl, t1, t2, t3⟩ := hy.inv_agg
          have hl := eqCells_length h
          have hsz : ks.length = szOf P t := by
            obtain ⟨d, hd, ht⟩ := aggOf_some ha
            simp only [eqK] at hk
            rw [hd] at hk
            cases d <;> simp at ht <;> simp only at hk
            · cases hk
            · split at hk
              · cases hk
              · split at hk
                · split at hk
                  · rename_i hz; injection hk with hk; rw [← hk]; exact hz
                  · cases hk
                · cases hk
          have e : ∀ l : List AV, l.length = ks.length → l.extract 0 (0 + ks.length) = l := fun l hl => by simp [List.extract_eq_take_drop, ← hl]
          obtain ⟨p, q, g1, g2, g3⟩ := run_eqK (w := w) (G := G) (St := St) 8 t Op.maxDepth ks hk (by decide) xs ys us vs 0 b ⟨s1, s2, s3⟩ ⟨t1, t2, t3⟩ (by omega) (by omega) (by rw [e xs hl.1, e ys hl.2]; exact h)
          unfold part at g1 g2
          rw [Sem.run_bind, run_isAgg ha] at g1 g2
          simp only [Result.andThen_ok, if_true, Sem.run_bind, run_sizeOf_a (w := w) ha, Sem.run_pure, Result.ok.injEq, and_true] at g1 g2
          have eu : us.extract 0 (0 + szOf P t) = us := by rw [← hsz, ← hl.1, ← s1]; simp
          have ev : vs.extract 0 (0 + szOf P t) = vs := by rw [← hsz, ← hl.2, ← t1]; simp
          rw [eu] at g1
          rw [ev] at g2
          rw [g1, g2]; exact g3
        · cases h
      · rename_i k hks ha
        injection hks with hks
        subst hks
        have c1 : ∀ {z : AV} {c : Value}, VR G w St z c → c.oneCell' = true → Cells G w St [z] #[c] := fun {z c} hz h1 => ⟨rfl, by simpa using h1, fun i x u hx hu => by
          cases i with
          | zero => simp at hx hu; subst hx hu; exact hz
          | succ i => simp at hx⟩
        have ho : x.one = true ∧ y.one = true := by
          unfold eqCell at h
          split at h <;> first | exact ⟨rfl, rfl⟩ | cases h
        obtain ⟨p, q, g1, g2, g3⟩ := run_eqK (w := w) (G := G) (St := St) 8 t Op.maxDepth [k] hk (by decide) [x] [y] #[u] #[v] 0 b (c1 hx (hx.one ho.1)) (c1 hy (hy.one ho.2)) (by simp) (by simp) (by simp [List.extract_eq_take_drop, eqCells, h])
        unfold part at g1 g2
        rw [Sem.run_bind, run_isAgg ha] at g1 g2
        simp at g1 g2
        rw [g1, g2]; exact g3
      · cases h
end Go.VM
