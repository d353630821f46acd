/-
  The abstract machine, part M.
-/
import Derived.Test.YtlpilgnjlnepeaaML
set_option linter.all false
namespace Go.VM
variable {P : Program} {G : GS} {w : World} {St : Sts} {O : Nat → Ow} {bs : List Nat} {K K' : List AO} {E E' : Env} {a : Act}

theorem VR.inv_map {id v} (h : VR G w St (.map id) v) : ∃ b, G id = some (.map b) ∧ v = .map (some b) := by
  cases h with
  | map id b h => exact ⟨b, h, rfl⟩
theorem lookAV_flag {kt et : TypeId} {k v : AV} {ok : Bool} {ks vs : List AV} (h : lookAV P kt et k ok ks vs = some v) (es : List (List AV)) : v.strip ≠ .slc true es := strip_not _ _
theorem wp_maplook {an : Ann} {nid : Nat} {o : Oper} {t : TypeId} {x i : Operand} {ok : Bool} {id : Nat} {wr : Bool} {news : List AV} {k : AO → Option (AV × AO)} {o0 o1 : AO} {v : AV} {next : Act → World → Prop} {Q : Exit → Act → World → Prop}
    (hop : o.op = .lookup t x i ok) (hH : HI G w St O bs K) (hE : EI G w St O E a.tmps) (ht : ∀ t, o.dst = some t → t < a.tmps.size)
    (hq : req P an nid o.dst o.op (o.op.operands.toList.map (inOf an o.dst o.op E)) = some (.upd id wr news k)) (hid : K[id]? = some o0) (hk : k o0 = some (v, o1))
    (hK : Goes G w St O bs (if wr then K.set id o1 else K) (putD (gives an o.dst o.op E) o.dst (tidy o.op v)) a o.dst next) : o.wp P a w next Q := by
  rw [hop] at hq
  simp only [req, Op.operands, List.map_cons, List.map_nil] at hq
  split at hq
  · rename_i id' ka kt et heq hmt
    simp only [Option.some.injEq, Req.upd.injEq] at hq
    obtain ⟨rfl, rfl, rfl, rfl⟩ := hq
    simp only [List.cons.injEq, and_true] at heq
    have hx := inOf_VR hE an o.dst (.lookup t x i ok) x
    have hi := inOf_VR hE an o.dst (.lookup t x i ok) i
    rw [heq.1] at hx
    rw [heq.2] at hi
    obtain ⟨b, hGb, hρ⟩ := hx.inv_map
    have hobj := hH.obj id' o0 hid
    simp only at hk
    split at hk
    · rename_i ks vs
      split at hk
      · rename_i v' hl
        simp only [Option.some.injEq, Prod.mk.injEq] at hk
        obtain ⟨rfl, rfl⟩ := hk
        obtain ⟨b', es, clock, g1, g2, g3, g4, g5, g6, g7, g8⟩ := hobj
        rw [hGb] at g1
        injection g1 with g1
        injection g1 with g1
        subst g1
        obtain ⟨cv, h1, h2⟩ := run_lookAV (P := P) (mv := .map (some b)) hmt hl hi g5 g6 g7 g8 (.inr ⟨b, clock, rfl, g3⟩)
        have htd : tidy o.op v' = v'.strip := by simp [tidy, flagOp, hop]
        rw [htd] at hK
        refine wp_read hH hE ht ?_ (fun u => by rw [hop]; rfl) h2.strip (strip_not _) (by simpa using hK)
        unfold execOp
        simp [hop, hρ, h1]
      · cases hk
    · cases hk
  · split at hq <;> simp at hq
  · cases hq
theorem wp_maplen {an : Ann} {nid : Nat} {o : Oper} {c : Call} {id : Nat} {wr : Bool} {news : List AV} {k : AO → Option (AV × AO)} {o0 o1 : AO} {v : AV} {next : Act → World → Prop} {Q : Exit → Act → World → Prop}
    (hop : o.op = .call c) (hnap : c.callee ≠ .builtin .append) (hH : HI G w St O bs K) (hE : EI G w St O E a.tmps) (ht : ∀ t, o.dst = some t → t < a.tmps.size)
    (hq : req P an nid o.dst o.op (o.op.operands.toList.map (inOf an o.dst o.op E)) = some (.upd id wr news k)) (hid : K[id]? = some o0) (hk : k o0 = some (v, o1))
    (hK : Goes G w St O bs (if wr then K.set id o1 else K) (putD (gives an o.dst o.op E) o.dst (tidy o.op v)) a o.dst next) : o.wp P a w next Q := by
  obtain ⟨callee, args, ats⟩ := c
  rw [hop] at hq
  simp only [req, reqCall] at hq
  split at hq
  · have hops : (Op.call ⟨.builtin .len, args, ats⟩).operands.toList = args.toList := by simp [Op.operands, Call.operands]
    rw [hops] at hq
    split at hq
    · split at hq <;> simp at hq
    · split at hq <;> simp at hq
    · split at hq <;> simp at hq
    · rename_i id' ver off n t heq hty
      split at hq
      · rename_i hs
        simp only [Option.some.injEq, Req.upd.injEq] at hq
        obtain ⟨rfl, rfl, rfl, rfl⟩ := hq
        obtain ⟨et, hmt⟩ := Option.isSome_iff_exists.1 hs
        cases hal : args.toList with
        | nil => simp [hal] at heq
        | cons x r =>
          cases r with
          | cons y r => simp [hal] at heq
          | nil =>
            have hargs : args = #[x] := Array.toList_inj.1 (by simp [hal])
            subst hargs
            simp only [List.map_cons, List.map_nil, List.cons.injEq, and_true] at heq
            have hx := inOf_VR hE an o.dst (.call ⟨.builtin .len, #[x], ats⟩) x
            rw [heq] at hx
            have hobj := hH.obj id' o0 hid
            unfold lenArr at hk
            split at hk
            · split at hk
              · rename_i ver' es hv
                simp only [Option.some.injEq, Prod.mk.injEq] at hk
                obtain ⟨rfl, rfl⟩ := hk
                obtain ⟨b, cap, sz, g1, _⟩ := hobj.row
                have hρ := hx.inv_arr g1 hv
                have hat : ats = #[t] := Array.toList_inj.1 (by simpa using hty)
                have htd : tidy o.op (.int .i64 n) = .int .i64 n := by simp [tidy, flagOp, hop]
                rw [htd] at hK
                refine wp_read (v := .int .i64 n) (cv := .int .i64 n) hH hE ht ?_ (fun u => by rw [hop]; rfl) (.int _ _) (fun es h => by cases h) (by simpa using hK)
                unfold execOp
                simp [hop, resolve, invoke, builtin, Builtin.len_, hat, hρ, arrVal, run_underlying (selOf_some hmt), goInt]
              · cases hk
            · cases hk
      · cases hq
    · rename_i id' t heq hty
      split at hq
      · rename_i hs
        simp only [Option.some.injEq, Req.upd.injEq] at hq
        obtain ⟨rfl, rfl, rfl, rfl⟩ := hq
        obtain ⟨⟨kt, et⟩, hmt⟩ := Option.isSome_iff_exists.1 hs
        cases hal : args.toList with
        | nil => simp [hal] at heq
        | cons x r =>
          cases r with
          | cons y r => simp [hal] at heq
          | nil =>
            have hargs : args = #[x] := Array.toList_inj.1 (by simp [hal])
            subst hargs
            simp only [List.map_cons, List.map_nil, List.cons.injEq, and_true] at heq
            have hx := inOf_VR hE an o.dst (.call ⟨.builtin .len, #[x], ats⟩) x
            rw [heq] at hx
            obtain ⟨b, hGb, hρ⟩ := hx.inv_map
            have hobj := hH.obj id' o0 hid
            simp only at hk
            split at hk
            · rename_i ks vs
              simp only [Option.some.injEq, Prod.mk.injEq] at hk
              obtain ⟨rfl, rfl⟩ := hk
              obtain ⟨b', es, clock, g1, g2, g3, g4, g5, g6, g7, g8⟩ := hobj
              rw [hGb] at g1
              injection g1 with g1
              injection g1 with g1
              subst g1
              have hat : ats = #[t] := Array.toList_inj.1 (by simpa using hty)
              have htd : tidy o.op (.int .i64 ks.length) = .int .i64 ks.length := by simp [tidy, flagOp, hop]
              rw [htd] at hK
              refine wp_read (v := .int .i64 ks.length) (cv := .int .i64 ks.length) hH hE ht ?_ (fun u => by rw [hop]; rfl) (.int _ _) (fun es h => by cases h) (by simpa using hK)
              unfold execOp
              simp [hop, resolve, invoke, builtin, Builtin.len_, hat, hρ, run_underlying (mapOf_some hmt), goInt, getObj, Sem.run, g3, g5]
            · cases hk
      · cases hq
    · cases hq
  · exact absurd rfl hnap
  · split at hq <;> simp at hq
  · cases hq

theorem findAV_at {kt : TypeId} {k : AV} : ∀ {ks : List AV} {i j : Nat}, findAV P kt k ks i = some (some j) → ∃ x, ks[j - i]? = some x ∧ eqAV P kt k x = some true
  | [], i, j, h => by simp [findAV] at h
  | x :: ks, i, j, h => by
    simp only [findAV] at h
    split at h
    · rename_i hb
      simp only [Option.some.injEq] at h
      subst h
      exact ⟨x, by simp, hb⟩
    · have := (findAV_shift kt k ks (i + 1) (some j) h j rfl).1
      obtain ⟨y, h1, h2⟩ := findAV_at h
      exact ⟨y, by rw [show j - i = (j - (i + 1)) + 1 by omega]; simpa using h1, h2⟩
    · cases h
/-- A heap whose one block has turned into another object. -/
def World.setBlk (w : World) (b : Nat) (o : Obj) : World := { w with heap := w.heap.setIfInBounds b o }
theorem setBlk_at {b : Nat} {o : Obj} (h : b < w.heap.size) : (World.setBlk w b o).heap[b]? = some o := by simp [World.setBlk, h]
theorem setBlk_other {b c : Nat} {o : Obj} (h : c ≠ b) : (World.setBlk w b o).heap[c]? = w.heap[c]? := by
  simp only [World.setBlk, Array.getElem?_setIfInBounds]
  rw [if_neg (fun e => h e.symm)]
theorem setBlk_stab {b : Nat} {ob : Obj} (hs : ∀ o, ¬ St b o) : Stab w (World.setBlk w b ob) St := fun c o hc => by
  have hne : c ≠ b := fun h => hs o (h ▸ hc)
  have hh := setBlk_other (w := w) (o := ob) hne
  exact ⟨World.cell?_of_block (w := w) (a := ⟨c, o, none⟩) hh, fun es cl he => hh.trans he⟩
theorem run_updMap {t kt et : TypeId} {k v : AV} {kv vv : Value} {ks vs ks' vs' : List AV} {r : AV} {es : Array MapEntry} {b clock : Nat} (ht : mapOf P t = some (kt, et)) (h : updMap P kt k v (.map ks vs) = some (r, .map ks' vs'))
    (hk : VR G w St k kv) (hvv : VR G w St v vv) (hb : w.heap[b]? = some (.map es clock)) (hl : es.size = ks.length) (hv : vs.length = ks.length)
    (hrk : ∀ (i : Nat) (e : MapEntry) (x : AV), es[i]? = some e → ks[i]? = some x → VR G w St x e.key) (hrv : ∀ (i : Nat) (e : MapEntry) (x : AV), es[i]? = some e → vs[i]? = some x → VR G w St x e.val) :
    ∃ es' clock', (Instr.mapUpdate t (.map (some b)) kv vv).run P w = .ok () (World.setBlk w b (.map es' clock')) ∧ es'.size = ks'.length ∧ vs'.length = ks'.length ∧
      (∀ (i : Nat) (e : MapEntry) (x : AV), es'[i]? = some e → ks'[i]? = some x → VR G w St x e.key) ∧ (∀ (i : Nat) (e : MapEntry) (x : AV), es'[i]? = some e → vs'[i]? = some x → VR G w St x e.val) ∧
      ((ks' = ks ++ [k] ∧ vs' = vs ++ [v]) ∨ ∃ i, ks' = ks.set i k ∧ vs' = vs.set i v) := by
  simp only [updMap] at h
  split at h
  · cases h
  · rename_i hok
    have hok' : keyOk P kt k = true := by simpa using hok
    obtain ⟨kd, hkd⟩ := keyOk_underlying hok'
    have hmu := mapOf_some ht
    have hck := run_checkAV (P := P) (w := w) false hok' hk
    have hrun : ∀ r, findAV P kt k ks 0 = some r → (Instr.findKey kt kv es.toList).run P w = .ok (found es.toList 0 r) w := fun r hr => run_findKey hkd hk hr (by simpa using hl) (fun j e x a b => hrk j e x (by simpa using a) b)
    split at h
    · rename_i i hf
      simp only [Option.some.injEq, Prod.mk.injEq, AO.map.injEq] at h
      obtain ⟨_, rfl, rfl⟩ := h
      obtain ⟨x, hx, heq⟩ := findAV_at hf
      rw [Nat.sub_zero] at hx
      have hlt : i < es.size := by rw [hl]; exact (List.getElem?_eq_some_iff.1 hx).1
      have hfd := hrun _ hf
      simp only [found, Nat.sub_zero, Array.getElem?_toList, Array.getElem?_eq_getElem hlt, Option.map_some] at hfd
      have hsame : kv = es[i].key := eqAV_same heq hk (hrk i es[i] x (by simp [hlt]) hx)
      have hbits : Instr.sameBits 10000 kv kv = true := sameBits_key heq hk
      refine ⟨es.modify i fun e => { e with key := kv, val := vv }, clock, ?_, by simp [hl], by simp [hv], ?_, ?_, .inr ⟨i, rfl, rfl⟩⟩
      · have hkeep : (Instr.keyThatStays kv kv).run P w = .ok kv w := by simp [Instr.keyThatStays, hbits]
        have hkk : es[i].key = kv := hsame.symm
        simp [Instr.mapUpdate, run_underlying hmu, getObj, setObj, Sem.run, hb, hck, hfd, hlt, hkk, hkeep, World.setBlk]
      · intro j e y he hy
        rw [Array.getElem?_modify] at he
        rw [List.getElem?_set] at hy
        by_cases hj : i = j
        · subst hj
          rw [if_pos rfl] at he hy
          rw [Array.getElem?_eq_getElem hlt] at he
          simp at he
          rw [if_pos (by omega)] at hy
          injection hy with hy
          subst he hy
          exact hk
        · rw [if_neg hj] at he hy
          exact hrk j e y he hy
      · intro j e y he hy
        rw [Array.getElem?_modify] at he
        rw [List.getElem?_set] at hy
        by_cases hj : i = j
        · subst hj
          rw [if_pos rfl] at he hy
          rw [Array.getElem?_eq_getElem hlt] at he
          simp at he
          rw [if_pos (by omega)] at hy
          injection hy with hy
          subst he hy
          exact hvv
        · rw [if_neg hj] at he hy
          exact hrv j e y he hy
    · rename_i hf
      simp only [Option.some.injEq, Prod.mk.injEq, AO.map.injEq] at h
      obtain ⟨_, rfl, rfl⟩ := h
      have hfd := hrun _ hf
      simp only [found] at hfd
      refine ⟨es.push { key := kv, val := vv, born := clock }, clock + 1, ?_, by simp [hl], by simp [hv], ?_, ?_, .inl ⟨rfl, rfl⟩⟩
      · simp [Instr.mapUpdate, run_underlying hmu, getObj, setObj, Sem.run, hb, hck, hfd, World.setBlk]
      · intro j e y he hy
        rw [Array.getElem?_push] at he
        by_cases hj : j = es.size
        · rw [if_pos hj] at he
          injection he with he
          rw [hj, hl, List.getElem?_append_right (Nat.le_refl _)] at hy
          simp at hy
          subst he hy
          exact hk
        · rw [if_neg hj] at he
          have hlt : j < es.size := (Array.getElem?_eq_some_iff.1 he).1
          rw [List.getElem?_append_left (by omega)] at hy
          exact hrk j e y he hy
      · intro j e y he hy
        rw [Array.getElem?_push] at he
        by_cases hj : j = es.size
        · rw [if_pos hj] at he
          injection he with he
          rw [hj, hl, ← hv, List.getElem?_append_right (Nat.le_refl _)] at hy
          simp at hy
          subst he hy
          exact hvv
        · rw [if_neg hj] at he
          have hlt : j < es.size := (Array.getElem?_eq_some_iff.1 he).1
          rw [List.getElem?_append_left (by omega)] at hy
          exact hrv j e y he hy
    · cases h
theorem updMap_form {kt : TypeId} {k v r : AV} {o o1 : AO} (h : updMap P kt k v o = some (r, o1)) : r = .poison ∧ ∃ ks vs ks' vs', o = .map ks vs ∧ o1 = .map ks' vs' := by
  unfold updMap at h
  split at h
  · split at h
    · cases h
    · split at h
      · simp only [Option.some.injEq, Prod.mk.injEq] at h; exact ⟨h.1.symm, _, _, _, _, rfl, h.2.symm⟩
      · simp only [Option.some.injEq, Prod.mk.injEq] at h; exact ⟨h.1.symm, _, _, _, _, rfl, h.2.symm⟩
      · cases h
  · cases h
theorem wp_mapput {an : Ann} {nid : Nat} {o : Oper} {t : TypeId} {m kk x : Operand} {id : Nat} {wr : Bool} {news : List AV} {k : AO → Option (AV × AO)} {o0 o1 : AO} {v : AV} {next : Act → World → Prop} {Q : Exit → Act → World → Prop}
    (hop : o.op = .mapUpdate t m kk x ∨ o.op = .insert t m kk x) (hH : HI G w St O bs K) (hE : EI G w St O E a.tmps) (ht : ∀ t, o.dst = some t → t < a.tmps.size)
    (hq : req P an nid o.dst o.op (o.op.operands.toList.map (inOf an o.dst o.op E)) = some (.upd id wr news k)) (hid : K[id]? = some o0) (hk : k o0 = some (v, o1)) (hput : okPut bs id news = true)
    (hK : Goes G w St O bs (if wr then K.set id o1 else K) (putD (gives an o.dst o.op E) o.dst (tidy o.op v)) a o.dst next) : o.wp P a w next Q := by
  have hq' : (match [inOf an o.dst o.op E m, inOf an o.dst o.op E kk, inOf an o.dst o.op E x], mapOf P t with
     | [.map id, k, v], some (kt, _) => some (Req.upd id true [k, v] (updMap P kt k v))
     | _, _ => none) = some (.upd id wr news k) := by
    rcases hop with h | h <;> (rw [h] at hq ⊢; exact hq)
  clear hq
  split at hq'
  · rename_i id' ka va kt et heq hmt
    simp only [Option.some.injEq, Req.upd.injEq] at hq'
    obtain ⟨rfl, rfl, rfl, rfl⟩ := hq'
    simp only [List.cons.injEq, and_true] at heq
    have hm := inOf_VR hE an o.dst o.op m
    have hkk := inOf_VR hE an o.dst o.op kk
    have hx := inOf_VR hE an o.dst o.op x
    rw [heq.1] at hm
    rw [heq.2.1] at hkk
    rw [heq.2.2] at hx
    obtain ⟨b, hGb, hρ⟩ := hm.inv_map
    have hobj := hH.obj id' o0 hid
    obtain ⟨rfl, ks, vs, ks', vs', rfl, rfl⟩ := updMap_form hk
    obtain ⟨b', es, clock, g1, g2, g3, g4, g5, g6, g7, g8⟩ := hobj
    rw [hGb] at g1
    injection g1 with g1
    injection g1 with g1
    subst g1
    obtain ⟨es', clock', r1, r2, r3, r4, r5, r6⟩ := run_updMap hmt hk hkk hx g3 g5 g6 g7 g8
    have hrun : (execOp a.eval o).run P w = .ok .skip (World.setBlk w b (.map es' clock')) := by
      unfold execOp
      rcases hop with h | h <;> simp [h, hρ, r1]
    have htd : tidy o.op .poison = .poison := by rcases hop with h | h <;> simp [tidy, flagOp, h, AV.strip]
    have hnh : ∀ u, hands an o.dst o.op u = false := fun u => by rcases hop with h | h <;> (rw [h]; rfl)
    rw [htd, gives_none hnh] at hK
    simp only [if_true] at hK
    have hblt : b < w.heap.size := hH.low b (by rw [g2]; simp)
    have hstab : Stab w (World.setBlk w b (.map es' clock')) St := setBlk_stab g4
    have hsize : (World.setBlk w b (.map es' clock')).heap.size = w.heap.size := by simp [World.setBlk]
    unfold Oper.wp
    rw [hrun, Oper.upon_skip]
    refine hK undef _ G St O ?_ ?_ ?_ (GLe.refl G)
    · refine hH.turn id' _ (GLe.refl G) hH.gst hstab (fun _ _ h => h) (fun b1 id1 hne hb1 => ⟨rfl, setBlk_other ?_, fun _ h => h⟩) ?_ (fun b1 h => by rw [hsize]; exact hH.low b1 h) (fun c o h => by rw [hsize]; exact hH.stl c o h) ?_
      · intro h; subst h
        rcases hb1 with h1 | ⟨j, h1⟩
        · rw [g2] at h1; injection h1 with h1; exact hne h1.symm
        · rw [g2] at h1; cases h1
      · exact ⟨b, es', clock', hGb, g2, setBlk_at hblt, g4, r2, r3, fun i e y h1 h2 => (r4 i e y h1 h2).mono (GLe.refl G) hstab (fun _ _ h => h), fun i e y h1 h2 => (r5 i e y h1 h2).mono (GLe.refl G) hstab (fun _ _ h => h)⟩
      · intro b1 hb1 hlt
        have h1 := hH.bas b1 hb1 id' _ hlt hid
        have h2 := okPut_spec hput b1 hb1 hlt
        simp only [cloO, cloL, Bool.and_eq_true] at h1 h2 ⊢
        rcases r6 with ⟨rfl, rfl⟩ | ⟨i, rfl, rfl⟩
        · rw [cloL_append, cloL_append]; simp [cloL, h1.1, h1.2, h2.1, h2.2.1]
        · exact ⟨cloL_set _ _ _ h1.1 h2.1, cloL_set _ _ _ h1.2 h2.2.1⟩
    · refine EI.put_dst (hE.keep (GLe.refl G) hstab (fun _ _ h => h) fun b1 hb1 => ⟨rfl, setBlk_other ?_, fun _ h => h⟩) (.poison _) (fun es t _ h => by cases h) ht
      intro h; subst h; rw [g2] at hb1; exact hb1
    · exact ⟨rfl, rfl, rfl, by rw [hsize]; exact Nat.le_refl _, fun c hc h0 => setBlk_other (fun h => by subst h; rw [g2] at h0; cases h0), hstab, fun _ _ h => h, fun _ _ h => .inl h, fun c h => .inl h⟩
  · cases hq'
end Go.VM
