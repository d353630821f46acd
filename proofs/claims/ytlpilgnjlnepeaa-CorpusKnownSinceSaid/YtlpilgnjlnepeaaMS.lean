/-
  The abstract machine, part S.
-/
import Derived.Test.YtlpilgnjlnepeaaMM
set_option linter.all false
namespace Go.VM
variable {P : Program} {G : GS} {w : World} {St : Sts} {O : Nat → Ow} {bs : List Nat} {K K' : List AO} {E E' : Env} {a : Act}

theorem run_append_in (t ty e e' : TypeId) (i : TypeInfo) (ht : P.underlying t = some (.slice e)) (hi : P.info? e = some i)
    (g sLen sCap : Nat) (cur : Array Value) (hg : w.heap[g]? = some (.cells cur e' (0, 0)))
    (a : Addr) (m c : Nat) (news : List Value) (hl : news.length = m * i.size) (hnews : ∀ j u, news[j]? = some u → w.cell? (a.add j) = some u) (h1 : ∀ u ∈ news, u.oneCell' = true)
    (hroom : sLen + m ≤ sCap) (hfit : sLen * i.size + news.length ≤ cur.size) :
    (Builtin.append_ #[t, t] ty #[.slice (some ⟨g, 0, none⟩) sLen sCap, .slice (some a) m c]).run P w =
      .ok (.slice (some ⟨g, 0, none⟩) (sLen + m) sCap) (w.setRow g (cur.toList.take (sLen * i.size) ++ news ++ cur.toList.drop (sLen * i.size + news.length)).toArray) := by
  have hf := run_firstCells_some (P := P) w i.size m a m c news hl hnews
  have hst := run_storeCells_at P g (sLen * i.size) e' news 0 cur w hg (by simpa using hfit) h1
  simp only [Nat.add_zero] at hst
  simp [Builtin.append_, run_underlying ht, sizeOf, typeInfo, hi, Builtin.lenOf, hroom, hf, Addr.add_lit, hst]
theorem run_append_none (t ty e : TypeId) (i : TypeInfo) (ht : P.underlying t = some (.slice e)) (hi : P.info? e = some i) (b : Option Addr) (n cap : Nat) (hn : n ≤ cap) (y : Option Addr) (c : Nat) :
    (Builtin.append_ #[t, t] ty #[.slice b n cap, .slice y 0 c]).run P w = .ok (.slice b n cap) w := by
  have hl : ∀ v : Addr, (loadCells v 0).run P w = .ok #[] w := fun v => by simpa using run_loadCells_list (P := P) w v [] (by simp)
  have hs : ∀ v : Addr, (storeCells v []).run P w = .ok () w := fun v => by simp [storeCells]
  cases b <;> cases y <;> simp [Builtin.append_, run_underlying ht, sizeOf, typeInfo, hi, Builtin.lenOf, hn, Builtin.firstCells, hl, hs]
theorem exec_append {o : Oper} {x y : Operand} {t : TypeId} {ρ : Operand → Value} (hop : o.op = .call ⟨.builtin .append, #[x, y], #[t, t]⟩) {v : Value} {w' : World}
    (h : ∀ ty, (Builtin.append_ #[t, t] ty #[ρ x, ρ y]).run P w = .ok v w') : (execOp ρ o).run P w = .ok (.value v) w' := by
  unfold execOp
  simp [hop, resolve, invoke, builtin, h]
theorem zr_info {e : TypeId} (h : (zrOf P e).isSome) : ∃ i z, P.info? e = some i ∧ i.zero = some z ∧ z.cells.size = szOf P e ∧ i.size = szOf P e ∧ i.bytes = byOf P e := by
  obtain ⟨z, hz⟩ := Option.isSome_iff_exists.1 h
  obtain ⟨i, zv, h1, h2, h3, _⟩ := zr_some (G := fun _ => none) (w := default) (St := fun _ _ => False) hz
  exact ⟨i, zv, h1, h2, h3, by simp [szOf, h1], by simp [byOf, h1]⟩
theorem size_zeroC (z : Array Value) (n : Nat) : (Builtin.zeroCells z n).size = n * z.size := by simp [Builtin.zeroCells]

/-- append to a slice whose holder alone may. -/
theorem wp_append_core {o : Oper} {x y : Operand} {t e : TypeId} {es ys : List (List AV)} {vx : Value} {ay : Addr} {cy : Nat} {nv : Array Value} {next : Act → World → Prop} {Q : Exit → Act → World → Prop}
    (hop : o.op = .call ⟨.builtin .append, #[x, y], #[t, t]⟩) (hH : HI G w St O bs K) (hE : EI G w St O E a.tmps) (ht : ∀ t, o.dst = some t → t < a.tmps.size)
    (hte : selOf P t = some e) (hz0 : szOf P e ≠ 0) (hzr : (zrOf P e).isSome) (hxe : a.eval x = vx) (hx : VR G w St (.slc true es) vx) (hsp : Spare w St O (dtag o.dst) es vx)
    (hu : uni (szOf P e) es = true) (huy : uni (szOf P e) ys = true) (hne : ys ≠ []) (hye : a.eval y = .slice (some ay) ys.length cy) (hnv : Cells G w St ys.flatten nv)
    (hcell : ∀ (k : Nat) (v : Value), nv[k]? = some v → w.cell? (ay.add k) = some v) (hb : (es.length + ys.length) * byOf P e ≤ 140737488355328) (hl : es.length + ys.length ≤ 140737488355328)
    (hK : Goes G w St O bs K (putD E o.dst (.slc true (es ++ ys))) a o.dst next) : o.wp P a w next Q := by
  obtain ⟨i, z, hi, hiz, hzs, his, hib⟩ := zr_info hzr
  have hte' := selOf_some hte
  have hyl : 0 < ys.length := List.length_pos_iff.2 hne
  have hue : ∀ r ∈ es, r.length = szOf P e := uni_spec hu
  have huys : ∀ r ∈ ys, r.length = szOf P e := uni_spec huy
  have huall : ∀ r ∈ es ++ ys, r.length = szOf P e := fun r hr => (List.mem_append.1 hr).elim (hue r) (huys r)
  have hnvs : nv.size = ys.length * szOf P e := hnv.1.trans (flat_len huys)
  have hnvl : nv.toList.length = ys.length * i.size := by rw [Array.length_toList, hnvs, his]
  have hnv1 : ∀ u ∈ nv.toList, u.oneCell' = true := fun u h => hnv.2.1 u (by simpa using h)
  have hnvc : ∀ (j : Nat) (u : Value), nv.toList[j]? = some u → w.cell? (ay.add j) = some u := fun j u h => hcell j u (by simpa using h)
  obtain ⟨b0, n, cap, rfl, hsp⟩ := hsp
  obtain ⟨rfl, hcap, hbn, olds, ho1, ho2⟩ := hx.rows hu
  have hos : olds.size = es.length * szOf P e := ho1.1.trans (flat_len hue)
  have hcat : Cells G w St (es ++ ys).flatten (olds ++ nv) := by rw [List.flatten_append]; exact ho1.append hnv
  by_cases hroom : es.length + ys.length ≤ cap
  · rcases hsp with h | ⟨b, vals, e', sz', rfl, q2, q3, q4, q5, q6, q7⟩
    · omega
    · obtain ⟨r0, hr0⟩ := List.exists_mem_of_ne_nil _ q5
      have hsz : sz' = szOf P e := by rw [← q6 r0 hr0]; exact hue r0 hr0
      subst hsz
      obtain ⟨b', o', hb', hold⟩ := ho2 q5
      injection hb' with hb'
      injection hb' with h1 h2 _
      subst h1 h2
      have hfit : es.length * i.size + nv.toList.length ≤ vals.size := by
        rw [hnvl, q4, ← Nat.add_mul, his]
        exact Nat.mul_le_mul_right _ hroom
      have hrun := fun ty => run_append_in (P := P) (w := w) t ty e e' i hte' hi b es.length cap vals q3 ay ys.length cy nv.toList hnvl hnvc hnv1 hroom hfit
      generalize hA : (vals.toList.take (es.length * i.size) ++ nv.toList ++ vals.toList.drop (es.length * i.size + nv.toList.length)).toArray = arr at hrun
      have hget : ∀ k, arr[k]? = if k < es.length * szOf P e then vals[k]? else if k < es.length * szOf P e + ys.length * szOf P e then nv[k - es.length * szOf P e]? else vals[k]? := fun k => by
        rw [← Array.getElem?_toList, ← hA]
        have := splice_get vals.toList (es.length * i.size) nv.toList (by rw [Array.length_toList (xs := vals)]; exact hfit) k
        unfold splice at this
        simp only [Array.getElem?_toList] at this ⊢
        rw [this, hnvl, his]
      have hasz : arr.size = vals.size := by
        have h1 : arr.size = arr.toList.length := Array.length_toList.symm
        rw [h1, ← hA]
        have h2 : vals.toList.length = vals.size := Array.length_toList
        simp only [List.length_append, List.length_take, List.length_drop]
        omega
      have hstab : Stab w (w.setRow b arr) St := fun c o hc => by
        by_cases hcb : c = b
        · subst hcb
          refine ⟨?_, fun es cl he => by rw [q3] at he; cases he⟩
          have hlt : o < es.length * szOf P e := by
            rcases Nat.lt_or_ge o (es.length * szOf P e) with h | h
            · exact h
            · exact absurd hc (q7 o h)
          rw [cell_of_row _ _ _ _ _ _ (setRow_heap w c vals arr e' (0, 0) q3), cell_of_row _ _ _ _ _ _ q3, hget, if_pos hlt]
        · have hh := setRow_other w b c arr hcb
          exact ⟨World.cell?_of_block (w := w) (a := ⟨c, o, none⟩) hh, fun es cl he => hh.trans he⟩
      have hdn : dtag o.dst ≠ .no := by cases o.dst <;> simp [dtag]
      have hstep : Step O w St O (w.setRow b arr) (addS St b (es.length * szOf P e) ((es.length + ys.length) * szOf P e)) :=
        ⟨rfl, rfl, rfl, by rw [setRow_size]; exact Nat.le_refl _, fun c hc h0 => setRow_other w b c arr (fun h => by subst h; rw [q2] at h0; exact hdn h0), hstab, fun _ _ h => .inl h, fun c o h => by
          rcases h with h | ⟨rfl, _⟩
          · exact .inl h
          · exact .inr (.inl (by rw [q2]; exact hdn)), fun c h => .inl h⟩
      have hblt : b < w.heap.size := hH.low b (by rw [q2]; exact hdn)
      refine wp_made hH hE ht (exec_append hop (v := .slice (some ⟨b, 0, none⟩) (es ++ ys).length cap) (w' := w.setRow b arr) fun ty => by rw [hxe, hye, hrun ty, List.length_append]) hstep (fun c hc hn => ?_) (fun c hc => by rw [setRow_size]; exact hH.low c hc) (fun c o h => ?_)
        (VR.of_rows huall (Nat.pos_of_ne_zero hz0) (hcat.mono (GLe.refl G) hstab (fun _ _ h => .inl h)) (by rw [List.length_append]; exact hroom) (by simp) fun _ => ⟨b, 0, rfl, fun k v hk => ?_⟩) (fun es' he => ?_) hK
      · refine ⟨rfl, setRow_other w b c arr (fun h => by subst h; exact hn q2), fun o ho => ?_⟩
        rcases ho with ho | ⟨rfl, _⟩
        · exact ho
        · exact absurd q2 hn
      · rw [setRow_size]
        rcases h with h | ⟨rfl, _⟩
        · exact hH.stl c o h
        · exact hblt
      · rw [Nat.zero_add]
        rcases Nat.lt_or_ge k olds.size with hk1 | hk1
        · rw [Array.getElem?_append_left hk1] at hk
          obtain ⟨s1, s2⟩ := hold k v hk
          rw [Nat.zero_add] at s1 s2
          exact ⟨.inl s1, (hstab b k s1).1.trans s2⟩
        · rw [Array.getElem?_append_right hk1] at hk
          have hk2 : k - olds.size < nv.size := (Array.getElem?_eq_some_iff.1 hk).1
          refine ⟨.inr ⟨rfl, by omega, by rw [Nat.add_mul]; omega⟩, ?_⟩
          rw [cell_of_row _ _ _ _ _ _ (setRow_heap w b vals arr e' (0, 0) q3), hget, if_neg (by omega), if_pos (by omega), ← hos]
          exact hk
      · injection he with _ he
        subst he
        refine ⟨_, _, _, rfl, .inr ⟨b, arr, e', szOf P e, rfl, q2, setRow_heap w b vals arr e' (0, 0) q3, by rw [hasz, q4], by simp [q5], huall, fun o ho hs => ?_⟩⟩
        rw [List.length_append] at ho
        have : es.length * szOf P e ≤ (es.length + ys.length) * szOf P e := Nat.mul_le_mul_right _ (by omega)
        rcases hs with hs | ⟨_, _, hs⟩
        · exact q7 o (by omega) hs
        · omega
  · have hg : cap < es.length + ys.length := by omega
    have h63 : ((es.length + ys.length : Nat) : Int) ≤ 9223372036854775807 := by omega
    have hfit : Builtin.nextslicecap (es.length + ys.length) cap * i.bytes ≤ 281474976710656 := growslice_fits hg (by rw [hib]; exact hb)
    have hcapn : es ++ ys ≠ [] := by simp [hne]
    cases b0 with
    | none =>
      have hc0 : cap = 0 := hbn rfl
      subst hc0
      have he0 : es = [] := List.length_eq_zero_iff.1 (by omega)
      subst he0
      have hrun := fun ty => run_append_nil (P := P) w t ty e i z hte' hi hiz ay ys.length cy nv.toList hnvl hnvc hyl (by simpa using h63) (by
        have := hfit
        simp only [List.length_nil, Nat.zero_add, nextslicecap_zero hyl] at this
        exact this)
      refine wp_row (w0 := w.drew) (arr := nv) (rest := Builtin.zeroCells z.cells (grownCap w ys.length 0 e - ys.length)) (e := e) (es := [] ++ ys) (cap := grownCap w ys.length 0 e) hH hE ht ⟨rfl, rfl, rfl, rfl⟩ (exec_append hop fun ty => by
        have hx0 : a.eval x = .slice none 0 0 := hxe
        rw [hx0, hye]; exact hrun ty) huall (Nat.pos_of_ne_zero hz0) (by simpa using hnv) (grownCap_ge w ys.length 0 e) (.inr ⟨hcapn, ?_⟩) hK
      rw [size_zeroC, hzs]; rfl
    | some b0 =>
      have holds : ∀ j v, olds.toList[j]? = some v → w.cell? (b0.add j) = some v := by
        intro j v hj
        have hj' : olds[j]? = some v := by simpa using hj
        have hne' : es ≠ [] := by
          intro h; subst h
          have := (Array.getElem?_eq_some_iff.1 hj').1
          rw [hos] at this
          simp at this
        obtain ⟨b, o, hb', hold⟩ := ho2 hne'
        injection hb' with hb'
        subst hb'
        rw [Addr.add_lit]
        exact (hold j v hj').2
      have hrun := fun ty => run_append_grow (P := P) w t ty e i z hte' hi hiz b0 es.length cap olds.toList (by rw [Array.length_toList, hos, his]) holds ay ys.length cy nv.toList hnvl hnvc hg h63 hfit
      refine wp_row (w0 := w.drew) (arr := olds ++ nv) (rest := Builtin.zeroCells z.cells (grownCap w (es.length + ys.length) cap e - (es.length + ys.length))) (e := e) (es := es ++ ys) (cap := grownCap w (es.length + ys.length) cap e) hH hE ht ⟨rfl, rfl, rfl, rfl⟩ (exec_append hop fun ty => by
        rw [hxe, hye, hrun ty, List.length_append]) huall (Nat.pos_of_ne_zero hz0) hcat (by rw [List.length_append]; exact grownCap_ge w _ cap e) (.inr ⟨hcapn, ?_⟩) hK
      rw [size_zeroC, hzs, List.length_append]
end Go.VM
