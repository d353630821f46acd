/-
  The abstract machine, part H.
-/
import Derived.Test.YtlpilgnjlnepeaaMF
set_option linter.all false
namespace Go.VM
variable {P : Program} {G : GS} {w : World} {St : Sts}

/-! ### a key is a key -/
theorem eqCell_same {k : EqK} {x y : AV} {u v : Value} (h : eqCell k x y = some true) (hx : VR G w St x u) (hy : VR G w St y v) : u = v := by
  unfold eqCell at h
  split at h
  · split at h
    · rename_i hk
      simp only [Option.some.injEq, beq_iff_eq] at h
      obtain ⟨rfl, rfl⟩ := hk
      rw [hx.inv_int, hy.inv_int, h]
    · cases h
  · simp only [Option.some.injEq, beq_iff_eq] at h
    rw [hx.inv_bool, hy.inv_bool, h]
  · rename_i a b
    simp only [Option.some.injEq] at h
    have : a = b := by
      rw [beq_toListBytes] at h
      have h2 : a.toList = b.toList := by simpa using h
      rw [ByteArray.toList_eq, ByteArray.toList_eq] at h2
      cases a; cases b
      simp only [ByteArray.mk.injEq]
      exact Array.toList_inj.1 h2
    rw [hx.inv_str, hy.inv_str, this]
  · cases h
theorem eqCells_same : ∀ (ks : List EqK) (xs ys : List AV) (us vs : List Value), eqCells ks xs ys = some true → us.length = xs.length → vs.length = ys.length →
    (∀ (i : Nat) (x : AV) (u : Value), xs[i]? = some x → us[i]? = some u → VR G w St x u) → (∀ (i : Nat) (x : AV) (u : Value), ys[i]? = some x → vs[i]? = some u → VR G w St x u) → us = vs
  | [], [], [], us, vs, _, h1, h2, _, _ => by
    rw [List.eq_nil_of_length_eq_zero h1, List.eq_nil_of_length_eq_zero h2]
  | k :: ks, x :: xs, y :: ys, u :: us, v :: vs, h, h1, h2, hx, hy => by
    simp only [eqCells] at h
    split at h
    · rename_i b c hb hc
      simp only [Option.some.injEq, Bool.and_eq_true] at h
      obtain ⟨rfl, rfl⟩ := h
      rw [eqCell_same hb (hx 0 x u rfl rfl) (hy 0 y v rfl rfl), eqCells_same ks xs ys us vs hc (by simpa using h1) (by simpa using h2) (fun i x u a b => hx (i + 1) x u (by simpa using a) (by simpa using b)) (fun i x u a b => hy (i + 1) x u (by simpa using a) (by simpa using b))]
    · cases h
  | _ :: _, x :: xs, _, [], _, _, h1, _, _, _ => by simp at h1
  | _ :: _, _, y :: ys, _, [], _, _, h2, _, _ => by simp at h2
  | [], x :: xs, _, _, _, h, _, _, _, _ => by simp [eqCells] at h
  | [], [], y :: ys, _, _, h, _, _, _, _ => by simp [eqCells] at h
  | k :: ks, [], _, _, _, h, _, _, _, _ => by simp [eqCells] at h
  | k :: ks, x :: xs, [], _, _, h, _, _, _, _ => by simp [eqCells] at h
theorem eqAV_same {t : TypeId} {x y : AV} {u v : Value} (h : eqAV P t x y = some true) (hx : VR G w St x u) (hy : VR G w St y v) : u = v := by
  unfold eqAV at h
  split at h
  · split at h
    · obtain ⟨us, rfl, s1, s2, s3⟩ := hx.inv_agg
      obtain ⟨vs, rfl, t1, t2, t3⟩ := hy.inv_agg
      rw [Array.toList_inj.1 (eqCells_same _ _ _ us.toList vs.toList h (by simpa using s1) (by simpa using t1) (fun i x u a b => s3 i x u a (by simpa using b)) (fun i x u a b => t3 i x u a (by simpa using b)))]
    · cases h
  · exact eqCell_same h hx hy
  · cases h
theorem eqCell_form {k : EqK} {x y : AV} {b : Bool} {u : Value} (h : eqCell k x y = some b) (hx : VR G w St x u) : (∃ k n, u = .int k n) ∨ (∃ b, u = .bool b) ∨ ∃ s, u = .string s := by
  unfold eqCell at h
  split at h
  · exact .inl ⟨_, _, hx.inv_int⟩
  · exact .inr (.inl ⟨_, hx.inv_bool⟩)
  · exact .inr (.inr ⟨_, hx.inv_str⟩)
  · cases h
theorem eqCells_form : ∀ {ks : List EqK} {xs ys : List AV} {b : Bool}, eqCells ks xs ys = some b → ∀ (i : Nat) (x : AV) (u : Value), xs[i]? = some x → VR G w St x u → (∃ k n, u = .int k n) ∨ (∃ b, u = .bool b) ∨ ∃ s, u = .string s
  | [], [], [], _, _, i, x, u, h, _ => by simp at h
  | k :: ks, x0 :: xs, y :: ys, b, h, i, x, u, hi, hu => by
    simp only [eqCells] at h
    split at h
    · rename_i e f he hf
      cases i with
      | zero => simp at hi; subst hi; exact eqCell_form he hu
      | succ i => exact eqCells_form hf i x u (by simpa using hi) hu
    · cases h
  | [], x :: xs, _, _, h, _, _, _, _, _ => by simp [eqCells] at h
  | [], [], y :: ys, _, h, _, _, _, _, _ => by simp [eqCells] at h
  | k :: ks, [], _, _, h, _, _, _, _, _ => by simp [eqCells] at h
  | k :: ks, x :: xs, [], _, h, _, _, _, _, _ => by simp [eqCells] at h
theorem sameBits_scalar (n : Nat) {u : Value} (h : (∃ k n, u = .int k n) ∨ (∃ b, u = .bool b) ∨ ∃ s, u = .string s) : Instr.sameBits n u u = true := by
  rcases h with ⟨k, m, rfl⟩ | ⟨b, rfl⟩ | ⟨s, rfl⟩
  · cases n <;> simp [Instr.sameBits]
  · cases n <;> simp [Instr.sameBits]
  · have : (s == s) = true := by rw [beq_toListBytes]; simp
    cases n <;> simp [Instr.sameBits, this]
theorem sameBits_key {t : TypeId} {x y : AV} {b : Bool} {u : Value} (h : eqAV P t x y = some b) (hx : VR G w St x u) : Instr.sameBits 10000 u u = true := by
  unfold eqAV at h
  split at h
  · split at h
    · obtain ⟨us, rfl, s1, s2, s3⟩ := hx.inv_agg
      rw [show (10000 : Nat) = 9999 + 1 from rfl]
      unfold Instr.sameBits
      simp only [beq_self_eq_true, Bool.true_and]
      refine List.all_eq_true.2 fun p hp => ?_
      obtain ⟨a, c⟩ := p
      have hac : a = c ∧ a ∈ us.toList := by
        have : ∀ l : List Value, (a, c) ∈ l.zip l → a = c ∧ a ∈ l := by
          intro l
          induction l with
          | nil => intro h; simp at h
          | cons z l ih =>
            intro h
            simp only [List.zip_cons_cons, List.mem_cons, Prod.mk.injEq] at h
            rcases h with ⟨rfl, rfl⟩ | h
            · exact ⟨rfl, List.mem_cons_self⟩
            · exact ⟨(ih h).1, List.mem_cons_of_mem _ (ih h).2⟩
        exact this _ hp
      obtain ⟨rfl, hm⟩ := hac
      obtain ⟨i, hi, he⟩ := List.mem_iff_getElem.1 hm
      have hi' : i < us.size := by simpa using hi
      have hl : ∃ x, (_ : List AV)[i]? = some x := ⟨_, List.getElem?_eq_getElem (by rw [← s1]; exact hi')⟩
      obtain ⟨x, hxi⟩ := hl
      exact sameBits_scalar _ (eqCells_form (G := G) (w := w) (St := St) h i x a hxi (s3 i x a hxi (by rw [Array.getElem?_eq_getElem hi', ← he]; simp)))
    · cases h
  · exact sameBits_scalar _ (eqCell_form h hx)
  · cases h
def checkFs (em : Bool) (n : Nat) (xs : Array Value) : List Field → Sem Unit
  | [] => pure ()
  | f :: fs => do
    if f.name ≠ "_" then
      Instr.checkKey em n f.type (← part f.type xs f.offset)
    checkFs em n xs fs
theorem run_checkKey_struct (em : Bool) (n : Nat) (t : TypeId) (xs : Array Value) (fs : Array Field) (hu : P.underlying t = some (.struct fs)) :
    (Instr.checkKey em (n + 1) t (.agg xs)).run P w = (checkFs em n xs fs.toList).run P w := by
  simp only [Instr.checkKey, Sem.run_bind, run_underlying hu, Result.andThen_ok]
  rw [← Array.forIn_toList]
  generalize fs.toList = l
  clear hu
  induction l generalizing w with
  | nil => simp [checkFs]
  | cons f l ih =>
    simp only [List.forIn_cons, checkFs, Sem.run_bind, Sem.run_ite]
    split
    · generalize (part f.type xs f.offset).run P w = r1
      cases r1 with
      | ok a w1 =>
        simp only [Result.andThen_ok]
        generalize (Instr.checkKey em n f.type a).run P w1 = r2
        cases r2 with
        | ok b w2 =>
          simp only [Result.andThen_ok, Sem.run_pure]
          exact ih
        | halt x w2 => simp [Result.andThen]
      | halt x w1 => simp [Result.andThen]
    · simp only [Sem.run_pure, Result.andThen_ok]
      exact ih
theorem run_checkK (em : Bool) : ∀ (d : Nat) (t : TypeId) (n : Nat) (ks : List EqK), eqK P d t = some ks → d ≤ n → ∀ (xs : List AV) (us : Array Value) (off : Nat) (b : Bool), Cells G w St xs us →
    off + ks.length ≤ xs.length → eqCells ks (xs.extract off (off + ks.length)) (xs.extract off (off + ks.length)) = some b →
    ∃ p, (part t us off).run P w = .ok p w ∧ (Instr.checkKey em n t p).run P w = .ok () w
  | 0, t, n, ks, h, _, _, _, _, _, _, _, _ => by simp [eqK] at h
  | d + 1, t, 0, ks, h, hn, _, _, _, _, _, _, _ => by omega
  | d + 1, t, n + 1, ks, h, hn, xs, us, off, b, hx, hlx, hb => by
    have cell : ∀ k, ks = [k] → aggOf P t = some false → ∃ u, (part t us off).run P w = .ok u w := by
      intro k hk ha
      subst hk
      simp only [List.length_singleton] at hlx
      have h1 : off < us.size := by rw [hx.1]; omega
      exact ⟨us[off], by unfold part; rw [Sem.run_bind, run_isAgg ha]; simp [h1]⟩
    simp only [eqK] at h
    split at h
    · rename_i k hu
      injection h with h
      obtain ⟨u, r3⟩ := cell _ h.symm (aggOf_of hu)
      exact ⟨u, r3, by simp [Instr.checkKey, run_underlying hu]⟩
    · rename_i hu
      injection h with h
      obtain ⟨u, r3⟩ := cell _ h.symm (aggOf_of hu)
      exact ⟨u, r3, by simp [Instr.checkKey, run_underlying hu]⟩
    · rename_i hu
      injection h with h
      obtain ⟨u, r3⟩ := cell _ h.symm (aggOf_of hu)
      exact ⟨u, r3, by simp [Instr.checkKey, run_underlying hu]⟩
    · rename_i fs hu
      split at h
      · cases h
      · rename_i hst
        split at h
        · rename_i ks' hks
          split at h
          · rename_i hsz
            injection h with h
            subst h
            have ha : aggOf P t = some true := aggOf_of hu
            refine ⟨.agg (us.extract off (off + szOf P t)), ?_, ?_⟩
            · unfold part; rw [Sem.run_bind, run_isAgg ha]; simp [run_sizeOf_a (w := w) ha]
            · rw [run_checkKey_struct em n t _ fs hu]
              have hX := hx.extract off (off + szOf P t)
              rw [hsz] at hb hlx
              have key : ∀ (l : List Field) (o : Nat) (ls : List EqK) (r : Bool), eqFs P (eqK P d) o l = some ls → o + ls.length ≤ (xs.extract off (off + szOf P t)).length →
                  eqCells ls ((xs.extract off (off + szOf P t)).extract o (o + ls.length)) ((xs.extract off (off + szOf P t)).extract o (o + ls.length)) = some r →
                  (checkFs em n (us.extract off (off + szOf P t)) l).run P w = .ok () w := by
                intro l
                induction l with
                | nil => intro o ls r hl h1 h3; simp [checkFs]
                | cons f l ih =>
                  intro o ls r hl h1 h3
                  simp only [eqFs] at hl
                  split at hl
                  · rename_i hfo
                    obtain ⟨hname, hoff⟩ := hfo
                    split at hl
                    · rename_i kf hkf
                      split at hl
                      · rename_i kr hkr
                        injection hl with hl
                        subst hl
                        simp only [List.length_append] at h1 h3
                        rw [extract_split] at h3
                        obtain ⟨e1, e2, q1, q2, q3⟩ := eqCells_append _ _ _ _ _ _ _ h3 (by simp only [List.extract_eq_take_drop, List.length_take, List.length_drop] at h1 ⊢; omega) (by simp only [List.extract_eq_take_drop, List.length_take, List.length_drop] at h1 ⊢; omega)
                        obtain ⟨p, g1, g2⟩ := run_checkK em d f.type n kf hkf (by omega) _ _ o e1 hX (by omega) q1
                        have hrest := ih (o + kf.length) kr e2 hkr (by omega) (by rw [Nat.add_assoc]; exact q2)
                        unfold checkFs
                        simp only [hname, hoff, ne_eq, not_false_eq_true, if_true, Sem.run_bind, g1, g2, Result.andThen_ok, hrest]
                      · cases hl
                    · cases hl
                  · cases hl
              refine key fs.toList 0 ks' b hks ?_ ?_
              · simp only [List.extract_eq_take_drop, List.length_take, List.length_drop, hsz]; omega
              · have hX0 : (xs.extract off (off + szOf P t)).extract 0 (0 + ks'.length) = xs.extract off (off + szOf P t) := by
                  simp only [List.extract_eq_take_drop, hsz, List.drop_zero]; rw [List.take_take]; congr 1; omega
                rw [hX0]; exact hb
          · cases h
        · cases h
    · cases h
theorem run_checkAV {t : TypeId} {x : AV} {u : Value} (em : Bool) (h : keyOk P t x = true) (hx : VR G w St x u) : (Instr.checkKey em 10000 t u).run P w = .ok () w := by
  unfold keyOk at h
  split at h
  · clear h
    rename_i b h
    unfold eqAV eqTy at h
    cases hk : eqK P 8 t with
    | none => simp [hk] at h
    | some ks =>
      simp only [hk] at h
      cases hg : P.eqGuardType P.depth t with
      | true => simp [hg] at h
      | false =>
        simp only [hg, Bool.false_eq_true, if_false] at h
        split at h
        · rename_i ks' hks ha
          injection hks with hks
          subst hks
          split at h
          · rename_i xs
            obtain ⟨us, rfl, s1, s2, s3⟩ := hx.inv_agg
            have hl := eqCells_length h
            have hsz : ks.length = szOf P t := by
              obtain ⟨d, hd, ht⟩ := aggOf_some ha
              simp only [eqK] at hk
              rw [hd] at hk
              cases d <;> simp at ht <;> simp only at hk
              · cases hk
              · split at hk
                · cases hk
                · split at hk
                  · split at hk
                    · rename_i hz; injection hk with hk; rw [← hk]; exact hz
                    · cases hk
                  · cases hk
            have e : ∀ l : List AV, l.length = ks.length → l.extract 0 (0 + ks.length) = l := fun l hl => by simp [List.extract_eq_take_drop, ← hl]
            obtain ⟨p, g1, g2⟩ := run_checkK (w := w) (G := G) (St := St) em 8 t 10000 ks hk (by decide) xs us 0 b ⟨s1, s2, s3⟩ (by omega) (by rw [e xs hl.1]; exact h)
            unfold part at g1
            rw [Sem.run_bind, run_isAgg ha] at g1
            simp only [Result.andThen_ok, if_true, Sem.run_bind, run_sizeOf_a (w := w) ha, Sem.run_pure, Result.ok.injEq, and_true] at g1
            have eu : us.extract 0 (0 + szOf P t) = us := by rw [← hsz, ← hl.1, ← s1]; simp
            rw [eu] at g1
            rw [g1]; exact g2
          · cases h
        · rename_i k hks ha
          injection hks with hks
          subst hks
          have ho : x.one = true := by
            unfold eqCell at h
            split at h <;> first | rfl | cases h
          have hc : Cells G w St [x] #[u] := ⟨rfl, by simpa using hx.one ho, fun i z c hz hc => by
            cases i with
            | zero => simp at hz hc; subst hz hc; exact hx
            | succ i => simp at hz⟩
          obtain ⟨p, g1, g2⟩ := run_checkK (w := w) (G := G) (St := St) em 8 t 10000 [k] hk (by decide) [x] #[u] 0 b hc (by simp) (by simp [List.extract_eq_take_drop, eqCells, h])
          unfold part at g1
          rw [Sem.run_bind, run_isAgg ha] at g1
          simp at g1
          rw [g1]; exact g2
        · cases h
  · cases h

/-! ### finding -/
theorem findAV_shift (kt : TypeId) (k : AV) : ∀ (ks : List AV) (i : Nat) (r : Option Nat), findAV P kt k ks i = some r → ∀ j, r = some j → i ≤ j ∧ j - i < ks.length
  | [], i, r, h, j, hj => by simp [findAV] at h; subst h; cases hj
  | x :: ks, i, r, h, j, hj => by
    simp only [findAV] at h
    split at h
    · injection h with h; subst h; injection hj with hj; subst hj; simp
    · have := findAV_shift kt k ks (i + 1) r h j hj
      simp only [List.length_cons]; omega
    · cases h
def found (es : List MapEntry) (i : Nat) (r : Option Nat) : Option (Nat × Value) := match r with | some j => (es[j - i]?).map fun e => (j, e.val) | none => none
theorem run_findAsking {kt : TypeId} {k : AV} {kv : Value} (hk : VR G w St k kv) : ∀ (ks : List AV) (es : List MapEntry) (i : Nat) (r : Option Nat), findAV P kt k ks i = some r → es.length = ks.length →
    (∀ (j : Nat) (e : MapEntry) (x : AV), es[j]? = some e → ks[j]? = some x → VR G w St x e.key) → (Instr.findAsking kt kv es i).run P w = .ok (found es i r) w
  | [], [], i, r, h, _, _ => by simp [findAV] at h; subst h; simp [Instr.findAsking, found]
  | x :: ks, e :: es, i, r, h, hl, hr => by
    simp only [findAV] at h
    have hx := hr 0 e x rfl rfl
    split at h
    · rename_i hb
      injection h with h; subst h
      have := (run_eqAV (w := w) hb hk hx).1
      simp [Instr.findAsking, this, found]
    · rename_i hb
      have h1 := (run_eqAV (w := w) hb hk hx).1
      have h2 := run_findAsking hk ks es (i + 1) r h (by simpa using hl) (fun j e x a b => hr (j + 1) e x (by simpa using a) (by simpa using b))
      simp only [Instr.findAsking, Sem.run_bind, h1, Result.andThen_ok, Bool.false_eq_true, if_false, h2]
      cases r with
      | none => rfl
      | some j =>
        have := findAV_shift kt k ks (i + 1) (some j) h j rfl
        simp only [found]
        rw [show j - i = (j - (i + 1)) + 1 by omega, List.getElem?_cons_succ]
    · cases h
  | [], e :: es, _, _, _, hl, _ => by simp at hl
  | x :: ks, [], _, _, _, hl, _ => by simp at hl
theorem sameNow_eq {kt : TypeId} {kd : TypeDesc} {k x : AV} {kv xv : Value} {b b' : Bool} (hu : P.underlying kt = some kd) (hk : VR G w St k kv) (hx : VR G w St x xv) (h : Instr.sameNow kd kv xv = some b) (h' : eqAV P kt k x = some b') : b = b' := by
  unfold Instr.sameNow at h
  split at h
  · rename_i q k1 a k2 c
    split at h
    · injection h with h
      unfold eqAV at h'
      split at h'
      · split at h'
        · obtain ⟨us, e, _⟩ := hk.inv_agg; cases e
        · cases h'
      · unfold eqCell at h'
        split at h'
        · split at h'
          · injection h' with h'
            have e1 := hk.inv_int
            have e2 := hx.inv_int
            injection e1 with _ e1
            injection e2 with _ e2
            rw [← h, ← h', e1, e2]
          · cases h'
        · have := hk.inv_bool; cases this
        · have := hk.inv_str; cases this
        · cases h'
      · cases h'
    · cases h
  · rename_i a c
    injection h with h
    unfold eqAV at h'
    split at h'
    · split at h'
      · obtain ⟨us, e, _⟩ := hk.inv_agg; cases e
      · cases h'
    · unfold eqCell at h'
      split at h'
      · have := hk.inv_int; cases this
      · have := hk.inv_bool; cases this
      · injection h' with h'
        have e1 := hk.inv_str
        have e2 := hx.inv_str
        injection e1 with e1
        injection e2 with e2
        rw [← h, ← h', e1, e2]
      · cases h'
    · cases h'
  · rename_i a c
    injection h with h
    unfold eqAV at h'
    split at h'
    · split at h'
      · obtain ⟨us, e, _⟩ := hk.inv_agg; cases e
      · cases h'
    · unfold eqCell at h'
      split at h'
      · have := hk.inv_int; cases this
      · injection h' with h'
        have e1 := hk.inv_bool
        have e2 := hx.inv_bool
        injection e1 with e1
        injection e2 with e2
        rw [← h, ← h', e1, e2]
      · have := hk.inv_str; cases this
      · cases h'
    · cases h'
  · cases h
theorem findNow_eq {kt : TypeId} {kd : TypeDesc} {k : AV} {kv : Value} (hu : P.underlying kt = some kd) (hk : VR G w St k kv) : ∀ (ks : List AV) (es : List MapEntry) (i : Nat) (r : Option Nat) (q : Option (Nat × Value)), findAV P kt k ks i = some r → es.length = ks.length →
    (∀ (j : Nat) (e : MapEntry) (x : AV), es[j]? = some e → ks[j]? = some x → VR G w St x e.key) → Instr.findNow kd kv es i = some q → q = found es i r
  | [], [], i, r, q, h, _, _, hq => by simp [findAV] at h; subst h; simp [Instr.findNow] at hq; subst hq; rfl
  | x :: ks, e :: es, i, r, q, h, hl, hr, hq => by
    simp only [findAV] at h
    have hx := hr 0 e x rfl rfl
    simp only [Instr.findNow] at hq
    split at hq
    · rename_i hs
      injection hq with hq
      split at h
      · injection h with h; subst h; subst hq; simp [found]
      · rename_i hb
        have := sameNow_eq hu hk hx hs hb
        cases this
      · cases h
    · rename_i hs
      split at h
      · rename_i hb
        have := sameNow_eq hu hk hx hs hb
        cases this
      · have h2 := findNow_eq hu hk ks es (i + 1) r q h (by simpa using hl) (fun j e x a b => hr (j + 1) e x (by simpa using a) (by simpa using b)) hq
        rw [h2]
        cases r with
        | none => rfl
        | some j =>
          have := findAV_shift kt k ks (i + 1) (some j) h j rfl
          simp only [found]
          rw [show j - i = (j - (i + 1)) + 1 by omega, List.getElem?_cons_succ]
      · cases h
    · cases hq
  | [], e :: es, _, _, _, _, hl, _, _ => by simp at hl
  | x :: ks, [], _, _, _, _, hl, _, _ => by simp at hl
theorem run_findKey {kt : TypeId} {kd : TypeDesc} {k : AV} {kv : Value} (hu : P.underlying kt = some kd) (hk : VR G w St k kv) {ks : List AV} {es : List MapEntry} {r : Option Nat} (h : findAV P kt k ks 0 = some r) (hl : es.length = ks.length)
    (hr : ∀ (j : Nat) (e : MapEntry) (x : AV), es[j]? = some e → ks[j]? = some x → VR G w St x e.key) : (Instr.findKey kt kv es).run P w = .ok (found es 0 r) w := by
  simp only [Instr.findKey, Sem.run_bind, run_underlying hu, Result.andThen_ok]
  cases hn : Instr.findNow kd kv es 0 with
  | some q => simp [findNow_eq hu hk ks es 0 r q h hl hr hn]
  | none => exact run_findAsking hk ks es 0 r h hl hr
theorem keyOk_underlying {kt : TypeId} {k : AV} (h : keyOk P kt k = true) : ∃ d, P.underlying kt = some d := by
  unfold keyOk at h
  split at h
  · clear h
    rename_i b h
    unfold eqAV at h
    split at h
    · rename_i ha
      obtain ⟨d, hd, _⟩ := aggOf_some ha
      exact ⟨d, hd⟩
    · rename_i ha
      obtain ⟨d, hd, _⟩ := aggOf_some ha
      exact ⟨d, hd⟩
    · cases h
  · cases h
/-- What a look-up answers, out of the entries. -/
theorem run_lookAV {t kt et : TypeId} {k v : AV} {kval mv : Value} {ok : Bool} {ks vs : List AV} {es : Array MapEntry} (ht : mapOf P t = some (kt, et)) (h : lookAV P kt et k ok ks vs = some v) (hk : VR G w St k kval)
    (hl : es.size = ks.length) (hv : vs.length = ks.length)
    (hrk : ∀ (i : Nat) (e : MapEntry) (x : AV), es[i]? = some e → ks[i]? = some x → VR G w St x e.key) (hrv : ∀ (i : Nat) (e : MapEntry) (x : AV), es[i]? = some e → vs[i]? = some x → VR G w St x e.val)
    (hm : (mv = .map none ∧ es = #[]) ∨ ∃ b c, mv = .map (some b) ∧ w.heap[b]? = some (.map es c)) : ∃ cv, (Instr.lookup t mv kval ok).run P w = .ok cv w ∧ VR G w St v cv := by
  unfold lookAV at h
  split at h
  · cases h
  · rename_i hok
    have hok' : keyOk P kt k = true := by simpa using hok
    obtain ⟨kd, hkd⟩ := keyOk_underlying hok'
    have hmu := mapOf_some ht
    have hck := run_checkAV (P := P) (w := w) es.isEmpty hok' hk
    have hrun : ∀ r, findAV P kt k ks 0 = some r → (Instr.findKey kt kval es.toList).run P w = .ok (found es.toList 0 r) w := fun r hr => run_findKey hkd hk hr (by simpa using hl) (fun j e x a b => hrk j e x (by simpa using a) b)
    split at h
    · rename_i i hf
      split at h
      · rename_i x hx
        injection h with h
        have hlt : i < es.size := by rw [hl, ← hv]; exact (List.getElem?_eq_some_iff.1 hx).1
        have hfd := hrun _ hf
        simp only [found, Nat.sub_zero, Array.getElem?_toList, Array.getElem?_eq_getElem hlt, Option.map_some] at hfd
        have hvr := hrv i es[i] x (by simp [hlt]) hx
        refine ⟨if ok then .tuple #[es[i].val, .bool true] else es[i].val, ?_, ?_⟩
        · rcases hm with ⟨rfl, rfl⟩ | ⟨b, c, rfl, hb⟩
          · simp at hlt
          · simp [Instr.lookup, run_underlying hmu, getObj, Sem.run, hb, hck, hfd]
        · rw [← h]
          cases ok with
          | true =>
            refine .tup _ _ rfl fun j y u hy hu => ?_
            cases j with
            | zero => simp at hy hu; subst hy hu; exact hvr
            | succ j => cases j with
              | zero => simp at hy hu; subst hy hu; exact .bool true
              | succ j => simp at hy
          | false => exact hvr
      · cases h
    · rename_i hf
      have hfd := hrun _ hf
      simp only [found] at hfd
      split at h
      · rename_i y hz
        injection h with h
        obtain ⟨zv, hzero, hy⟩ : ∃ zv, (zeroValue et).run P w = .ok zv w ∧ VR G w St y zv := by
          unfold zvOf at hz
          split at hz
          · rename_i i0 hi
            split at hz
            · rename_i cs hcs
              split at hz
              · rename_i hall
                injection hz with hz
                refine ⟨.agg cs, by simp [zeroValue, typeInfo, hi, hcs], ?_⟩
                rw [← hz]
                have := VR.ofConst (G := G) (w := w) (St := St) (.agg cs)
                simpa [VM.ofConst, hall] using this
              · cases hz
            · rename_i zv _ hcs
              split at hz
              · injection hz with hz
                exact ⟨zv, by simp [zeroValue, typeInfo, hi, hcs], by rw [← hz]; exact VR.ofCell zv⟩
              · cases hz
            · cases hz
          · cases hz
        refine ⟨if ok then .tuple #[zv, .bool false] else zv, ?_, ?_⟩
        · rcases hm with ⟨rfl, rfl⟩ | ⟨b, c, rfl, hb⟩
          · simp at hck hfd
            simp [Instr.lookup, run_underlying hmu, hck, hfd, hzero]
          · simp [Instr.lookup, run_underlying hmu, getObj, Sem.run, hb, hck, hfd, hzero]
        · rw [← h]
          cases ok with
          | true =>
            refine .tup _ _ rfl fun j y u hy' hu => ?_
            cases j with
            | zero => simp at hy' hu; subst hy' hu; exact hy
            | succ j => cases j with
              | zero => simp at hy' hu; subst hy' hu; exact .bool false
              | succ j => simp at hy'
          | false => exact hy
      · cases h
    · cases h
end Go.VM
