/-
  The abstract machine, part T.
-/
import Derived.Test.YtlpilgnjlnepeaaMS
set_option linter.all false
namespace Go.VM
variable {P : Program} {G : GS} {w : World} {St : Sts} {O : Nat → Ow} {bs : List Nat} {K K' : List AO} {E E' : Env} {a : Act}

/-- Rights given away and forgotten. -/
theorem EI.weak {an : Ann} {d : Option Tmp} {o : Op} {T : Array Value} (h : EI G w St O E T) : EI G w St O (VM.gives an d o E) T := by
  refine ⟨h.gives, fun u es hu => h.own u es ?_⟩
  unfold VM.gives at hu
  split at hu
  · exact hu
  · split at hu
    · rw [Env.get_set] at hu
      split at hu
      · simp at hu
      · exact hu
    · exact hu
theorem gives_append {an : Ann} {d : Option Tmp} {x y : Operand} {t t' : TypeId} : gives an d (.call ⟨.builtin .append, #[x, y], #[t, t']⟩) E =
    match handT an d (.call ⟨.builtin .append, #[x, y], #[t, t']⟩) x with | some u => (match E.get u with | .slc true es => E.set u (.slc false es) | _ => E) | none => E := by
  have hops : (Op.call ⟨.builtin .append, #[x, y], #[t, t']⟩).operands.toList = [x, y] := by simp [Op.operands, Call.operands]
  have hy : handT an d (.call ⟨.builtin .append, #[x, y], #[t, t']⟩) y = none := by
    cases y with
    | tmp u =>
      simp only [handT]
      rw [if_neg]
      intro h
      cases x with
      | tmp s =>
        simp only [hands, List.all_cons, List.all_nil, Bool.and_true, Bool.and_eq_true, beq_iff_eq, bne_iff_ne, ne_eq] at h
        exact h.2 trivial
      | _ => simp [hands] at h
    | _ => rfl
  unfold gives
  rw [hops]
  simp only [List.filterMap_cons, List.filterMap_nil, hy]
  cases handT an d (.call ⟨.builtin .append, #[x, y], #[t, t']⟩) x <;> rfl
theorem append_hand {an : Ann} {d : Option Tmp} {x y : Operand} {t t' : TypeId} {es : List (List AV)} (hH : HI G w St O bs K) (hE : EI G w St O E a.tmps) (hx : inOf an d (.call ⟨.builtin .append, #[x, y], #[t, t']⟩) E x = .slc true es) :
    ∃ O1, Step O w St O1 w St ∧ HI G w St O1 bs K ∧ EI G w St O1 (gives an d (.call ⟨.builtin .append, #[x, y], #[t, t']⟩) E) a.tmps ∧ Spare w St O1 (dtag d) es (a.eval x) := by
  rcases inOf_flag (a := a) hx with ⟨u, rfl, h1, h2⟩ | ⟨rfl, h2⟩
  · refine ⟨retag O (.tmp u) (dtag d), Step.retag O w St (.tmp u) (dtag d) (by simp), hH.retag_tmp u (dtag d), ?_, (hE.own u es h2).keep fun b hb => ⟨by unfold retag; rw [if_pos hb], rfl, fun _ h => h⟩⟩
    rw [gives_append]
    simp only [handT, h1, if_true, h2]
    exact hE.give u (dtag d) h2
  · exact ⟨O, Step.refl O w St, hH, hE.weak, by rw [h2]; exact ⟨none, 0, 0, rfl, .inl rfl⟩⟩
theorem two_args {args : Array Operand} {f : Operand → AV} {u v : AV} (h : args.toList.map f = [u, v]) : ∃ x y, args = #[x, y] ∧ f x = u ∧ f y = v := by
  cases hal : args.toList with
  | nil => simp [hal] at h
  | cons x r =>
    cases r with
    | nil => simp [hal] at h
    | cons y r =>
      cases r with
      | nil =>
        simp only [hal, List.map_cons, List.map_nil, List.cons.injEq, and_true] at h
        exact ⟨x, y, Array.toList_inj.1 (by simp [hal]), h.1, h.2⟩
      | cons z r => simp [hal] at h
theorem VR.slc_form {u : Bool} {es : List (List AV)} {v : Value} (h : VR G w St (.slc u es) v) : ∃ b cap, v = .slice b es.length cap ∧ es.length ≤ cap := by
  cases h with
  | slc u es sz b cap us hc _ _ _ _ _ => exact ⟨b, cap, rfl, hc⟩
/-- append of nothing. -/
theorem wp_append_none {an : Ann} {o : Oper} {x y : Operand} {t e : TypeId} {u : Bool} {es : List (List AV)} {by_ : Option Addr} {cy : Nat} {next : Act → World → Prop} {Q : Exit → Act → World → Prop}
    (hop : o.op = .call ⟨.builtin .append, #[x, y], #[t, t]⟩) (hH : HI G w St O bs K) (hE : EI G w St O E a.tmps) (ht : ∀ t, o.dst = some t → t < a.tmps.size)
    (hte : selOf P t = some e) (hzr : (zrOf P e).isSome) (hx : inOf an o.dst o.op E x = .slc u es) (hye : a.eval y = .slice by_ 0 cy)
    (hK : Goes G w St O bs K (putD (gives an o.dst o.op E) o.dst (.slc u es)) a o.dst next) : o.wp P a w next Q := by
  obtain ⟨i, z, hi, hiz, hzs, his, hib⟩ := zr_info hzr
  have hxv := inOf_VR hE an o.dst o.op x
  rw [hx] at hxv
  obtain ⟨b, cap, hxe, hcap⟩ := hxv.slc_form
  have hrun : (execOp a.eval o).run P w = .ok (.value (a.eval x)) w := exec_append hop fun ty => by
    rw [hye, hxe]; exact run_append_none t ty e i (selOf_some hte) hi b es.length cap hcap by_ cy
  cases u with
  | false => exact wp_made hH hE.weak ht hrun (Step.refl O w St) (fun b hb hn => ⟨rfl, rfl, fun _ h => h⟩) hH.low hH.stl hxv (fun es' h => by simp at h) hK
  | true =>
    rw [hop] at hx hK
    obtain ⟨O1, s1, s2, s3, s4⟩ := append_hand hH hE hx
    exact wp_made s2 s3 ht hrun (Step.refl O1 w St) (fun b hb hn => ⟨rfl, rfl, fun _ h => h⟩) s2.low s2.stl hxv (fun es' h => by injection h with _ h; subst h; exact s4) (hK.step s1)
theorem append_req {an : Ann} {nid : Nat} {d : Option Tmp} {args : Array Operand} {ats : Array TypeId} {ins : List AV} {r : Req} (hq : req P an nid d (.call ⟨.builtin .append, args, ats⟩) ins = some r) :
    ∃ t e, ats = #[t, t] ∧ selOf P t = some e ∧ szOf P e ≠ 0 ∧ (zrOf P e).isSome ∧
      ((∃ u es u2 ys, ins = [.slc u es, .slc u2 ys] ∧ ((ys = [] ∧ r = .val (.slc u es)) ∨ (ys ≠ [] ∧ u = true ∧ uni (szOf P e) es = true ∧ uni (szOf P e) ys = true ∧ (es.length + ys.length) * byOf P e ≤ 140737488355328 ∧ es.length + ys.length ≤ 140737488355328 ∧ r = .val (.slc true (es ++ ys))))) ∨
       (∃ u es id ver off n, ins = [.slc u es, .arr id ver off n] ∧ r = .upd id false [] (appOf (szOf P e) (byOf P e) u es ver off n)) ∨
       (∃ id ver n u ys, ins = [.arr id ver 0 n, .slc u ys] ∧ r = .upd id true ys.flatten (appArr (szOf P e) (byOf P e) id ver n ys))) := by
  simp only [req, reqCall] at hq
  split at hq
  · rename_i t t' hty
    split at hq
    · rename_i htt
      subst htt
      split at hq
      · rename_i e he
        split at hq
        · rename_i hc
          refine ⟨t, e, Array.toList_inj.1 (by simpa using hty), he, hc.1, hc.2, ?_⟩
          split at hq
          · rename_i u es u2 ys
            refine .inl ⟨u, es, u2, ys, rfl, ?_⟩
            split at hq
            · rename_i hy
              injection hq with hq
              exact .inl ⟨by simpa using hy, hq.symm⟩
            · rename_i hy
              split at hq
              · rename_i hb
                injection hq with hq
                simp only [Bool.and_eq_true, decide_eq_true_eq] at hb
                exact .inr ⟨by simpa using hy, hb.1.1.1.1, hb.1.1.1.2, hb.1.1.2, hb.1.2, hb.2, hq.symm⟩
              · cases hq
          · rename_i u es id ver off n
            injection hq with hq
            exact .inr (.inl ⟨u, es, id, ver, off, n, rfl, hq.symm⟩)
          · rename_i id ver n u ys
            injection hq with hq
            exact .inr (.inr ⟨id, ver, n, u, ys, rfl, hq.symm⟩)
          · cases hq
        · cases hq
      · cases hq
    · cases hq
  · cases hq
theorem Cells.cut {xs : List AV} {us : Array Value} {n m : Nat} (h : Pre G w St xs us) (hnm : n + m ≤ xs.length) : Cells G w St ((xs.drop n).take m) (us.extract n (n + m)) := by
  have h1 := h.1
  refine ⟨by simp; omega, fun v hv => ?_, fun i x u hx hu => ?_⟩
  · obtain ⟨i, hi, he⟩ := Array.mem_iff_getElem.1 hv
    have hi' : i < m := by simp at hi; omega
    have hv' : us[n + i]? = some v := by
      have : v = us[n + i]'(by omega) := by simpa using he.symm
      rw [this]; simp
    have hx : xs[n + i]? = some (xs[n + i]'(by omega)) := List.getElem?_eq_getElem _
    exact (h.2 _ _ v hx hv').2
  · have hi : i < m := by
      have := (List.getElem?_eq_some_iff.1 hx).1
      simp at this; omega
    rw [List.getElem?_take_of_lt hi, List.getElem?_drop] at hx
    rw [Array.getElem?_extract] at hu
    split at hu
    · exact (h.2 _ x u hx hu).1
    · cases hu
theorem flat_extract {sz : Nat} {es : List (List AV)} (h : ∀ e ∈ es, e.length = sz) (off n : Nat) : (es.extract off (off + n)).flatten = (es.flatten.drop (off * sz)).take (n * sz) := by
  rw [List.extract_eq_take_drop, Nat.add_sub_cancel_left, flat_take n (fun x hx => h x (List.mem_of_mem_drop hx)), flat_drop off h]

theorem wp_append_val {an : Ann} {nid : Nat} {o : Oper} {args : Array Operand} {ats : Array TypeId} {v : AV} {next : Act → World → Prop} {Q : Exit → Act → World → Prop}
    (hop : o.op = .call ⟨.builtin .append, args, ats⟩) (hH : HI G w St O bs K) (hE : EI G w St O E a.tmps) (ht : ∀ t, o.dst = some t → t < a.tmps.size)
    (hq : req P an nid o.dst o.op (o.op.operands.toList.map (inOf an o.dst o.op E)) = some (.val v))
    (hK : Goes G w St O bs K (putD (gives an o.dst o.op E) o.dst (tidy o.op v)) a o.dst next) : o.wp P a w next Q := by
  have htd : tidy o.op v = v := by simp [tidy, flagOp, hop]
  rw [htd] at hK
  have hq0 := hq
  rw [hop] at hq
  obtain ⟨t, e, rfl, hte, hz0, hzr, hc⟩ := append_req hq
  have hops : (Op.call ⟨.builtin .append, args, #[t, t]⟩).operands.toList = args.toList := by simp [Op.operands, Call.operands]
  rw [hops] at hc
  rcases hc with ⟨u, es, u2, ys, hin, hr⟩ | ⟨u, es, id, ver, off, n, hin, hr⟩ | ⟨id, ver, n, u, ys, hin, hr⟩
  · obtain ⟨x, y, rfl, hx, hy⟩ := two_args hin
    have hyv := inOf_VR hE an o.dst (.call ⟨.builtin .append, #[x, y], #[t, t]⟩) y
    rw [hy] at hyv
    rcases hr with ⟨rfl, hr⟩ | ⟨hne, rfl, hu, huy, hb, hl, hr⟩
    · injection hr with hr
      subst hr
      obtain ⟨b2, c2, hye, _⟩ := hyv.slc_form
      exact wp_append_none hop hH hE ht hte hzr (by rw [hop]; exact hx) hye hK
    · injection hr with hr
      subst hr
      obtain ⟨b2, c2, hye, _⟩ := hyv.slc_form
      rw [hye] at hyv
      obtain ⟨_, _, _, nv, n1, n2⟩ := hyv.rows huy
      obtain ⟨b3, o3, rfl, n3⟩ := n2 hne
      obtain ⟨O1, s1, s2, s3, s4⟩ := append_hand hH hE hx
      have hxv := inOf_VR hE an o.dst (.call ⟨.builtin .append, #[x, y], #[t, t]⟩) x
      rw [hx] at hxv
      rw [hop] at hK
      exact wp_append_core hop s2 s3 ht hte hz0 hzr rfl hxv s4 hu huy hne hye n1 (fun k v hk => by rw [Addr.add_lit]; exact (n3 k v hk).2) hb hl (hK.step s1)
  · cases hr
  · cases hr
theorem wp_append_upd {an : Ann} {nid : Nat} {o : Oper} {args : Array Operand} {ats : Array TypeId} {id : Nat} {wr : Bool} {news : List AV} {k : AO → Option (AV × AO)} {o0 o1 : AO} {v : AV} {next : Act → World → Prop} {Q : Exit → Act → World → Prop}
    (hop : o.op = .call ⟨.builtin .append, args, ats⟩) (hH : HI G w St O bs K) (hE : EI G w St O E a.tmps) (ht : ∀ t, o.dst = some t → t < a.tmps.size)
    (hq : req P an nid o.dst o.op (o.op.operands.toList.map (inOf an o.dst o.op E)) = some (.upd id wr news k)) (hid : K[id]? = some o0) (hk : k o0 = some (v, o1)) (hput : wr = true → okPut bs id news = true)
    (hK : Goes G w St O bs (if wr then K.set id o1 else K) (putD (gives an o.dst o.op E) o.dst (tidy o.op v)) a o.dst next) : o.wp P a w next Q := by
  have htd : tidy o.op v = v := by simp [tidy, flagOp, hop]
  rw [htd] at hK
  rw [hop] at hq
  obtain ⟨t, e, rfl, hte, hz0, hzr, hc⟩ := append_req hq
  have hops : (Op.call ⟨.builtin .append, args, #[t, t]⟩).operands.toList = args.toList := by simp [Op.operands, Call.operands]
  rw [hops] at hc
  rcases hc with ⟨u, es, u2, ys, hin, hr⟩ | ⟨u, es, id', ver, off, n, hin, hr⟩ | ⟨id', ver, n, u, ys, hin, hr⟩
  · rcases hr with ⟨_, hr⟩ | ⟨_, _, _, _, _, _, hr⟩ <;> cases hr
  · obtain ⟨x, y, rfl, hx, hy⟩ := two_args hin
    injection hr with h1 h2 h3 h4
    subst h1 h2 h3 h4
    simp only [Bool.false_eq_true, if_false] at hK
    have hyv := inOf_VR hE an o.dst (.call ⟨.builtin .append, #[x, y], #[t, t]⟩) y
    rw [hy] at hyv
    have hobj := hH.obj id o0 hid
    unfold appOf at hk
    split at hk
    · rename_i ver' ys
      split at hk
      · rename_i hc
        obtain ⟨hv, hoff, hn0, rfl, hu, huy, hb, hl⟩ := hc
        simp only [Option.some.injEq, Prod.mk.injEq] at hk
        obtain ⟨rfl, rfl⟩ := hk
        obtain ⟨b, cap, sz, g1, g2, g3, g4, g5, g6, g7⟩ := hobj.row
        have hρ := hyv.inv_arr g1 hv
        have hys : ys ≠ [] := by intro h; subst h; simp at hoff; omega
        obtain ⟨r0, hr0⟩ := List.exists_mem_of_ne_nil _ hys
        have hsz : sz = szOf P e := by rw [← g4 r0 hr0]; exact uni_spec huy r0 hr0
        subst hsz
        cases b with
        | none =>
          have := g6 rfl
          have : ys.length = 0 := by omega
          exact absurd (List.length_eq_zero_iff.1 this) hys
        | some b =>
          obtain ⟨vals, et, q1, q2, q3, q4, q5⟩ := g7 b rfl
          have hlen : (ys.extract off (off + n)).length = n := by simp [List.extract_eq_take_drop]; omega
          obtain ⟨O1, s1, s2, s3, s4⟩ := append_hand hH hE hx
          have hxv := inOf_VR hE an o.dst (.call ⟨.builtin .append, #[x, y], #[t, t]⟩) x
          rw [hx] at hxv
          rw [hop] at hK
          have hfl : off * szOf P e + n * szOf P e ≤ ys.flatten.length := by rw [flat_len g4, ← Nat.add_mul]; exact Nat.mul_le_mul_right _ hoff
          have hcut := Cells.cut q5 hfl
          rw [← flat_extract g4 off n] at hcut
          refine wp_append_core hop s2 s3 ht hte hz0 hzr rfl hxv s4 hu (uni_of fun r hr => ?_) (fun h => ?_) (by rw [hρ, hlen]; rfl) hcut (fun k v hk => ?_) (by rw [hlen]; exact hb) (by rw [hlen]; exact hl) (hK.step s1)
          · rw [List.extract_eq_take_drop] at hr
            exact g4 r (List.mem_of_mem_drop (List.mem_of_mem_take hr))
          · rw [h] at hlen; simp at hlen; omega
          · rw [Addr.add_lit, cell_of_row _ _ _ _ _ _ q2]
            rw [Array.getElem?_extract] at hk
            split at hk
            · exact hk
            · cases hk
      · split at hk
        · rename_i hc
          simp only [Option.some.injEq, Prod.mk.injEq] at hk
          obtain ⟨rfl, rfl⟩ := hk
          obtain ⟨b, cap, sz, g1, g2, g3, g4, g5, g6, g7⟩ := hobj.row
          have hρ := hyv.inv_arr g1 hc.1
          rw [hc.2] at hρ
          exact wp_append_none hop hH hE ht hte hzr (by rw [hop]; exact hx) hρ hK
        · cases hk
    · cases hk
  · obtain ⟨x, y, rfl, hx, hy⟩ := two_args hin
    injection hr with h1 h2 h3 h4
    subst h1 h2 h3 h4
    simp only [if_true] at hK
    have hput := hput rfl
    have hyv := inOf_VR hE an o.dst (.call ⟨.builtin .append, #[x, y], #[t, t]⟩) y
    rw [hy] at hyv
    have hxv := inOf_VR hE an o.dst (.call ⟨.builtin .append, #[x, y], #[t, t]⟩) x
    rw [hx] at hxv
    obtain ⟨i, z, hi, hiz, hzs, his, hib⟩ := zr_info hzr
    have hte' := selOf_some hte
    have hobj := hH.obj id o0 hid
    have hidl : id < K.length := (List.getElem?_eq_some_iff.1 hid).1
    unfold appArr at hk
    split at hk
    · rename_i ver' es
      split at hk
      · rename_i hc
        obtain ⟨rfl, hn, hu⟩ := hc
        obtain ⟨b, cap, sz, g1, g2, g3, g4, g5, g6, g7⟩ := hobj.row
        have hρ := hxv.inv_arr g1 rfl
        obtain ⟨b2, c2, hye, _⟩ := hyv.slc_form
        split at hk
        · rename_i hys
          have hys : ys = [] := by simpa using hys
          subst hys
          simp only [Option.some.injEq, Prod.mk.injEq] at hk
          obtain ⟨rfl, rfl⟩ := hk
          have hsetK : K.set id (.arr ver' es) = K := by
            apply List.ext_getElem?
            intro j
            rw [List.getElem?_set]
            split
            · rename_i h; subst h; (try rw [if_pos hidl]); exact hid.symm
            · rfl
          rw [hsetK] at hK
          have hrun : (execOp a.eval o).run P w = .ok (.value (a.eval x)) w := exec_append hop fun ty => by
            rw [hye, hρ]; exact run_append_none t ty e i hte' hi _ _ _ (by omega) b2 c2
          exact wp_made hH hE.weak ht hrun (Step.refl O w St) (fun b hb hn => ⟨rfl, rfl, fun _ h => h⟩) hH.low hH.stl hxv (fun es' h => by cases h) hK
        · rename_i hys
          split at hk
          · rename_i hcc
            simp only [Option.some.injEq, Prod.mk.injEq] at hk
            obtain ⟨rfl, rfl⟩ := hk
            simp only [Bool.and_eq_true, decide_eq_true_eq] at hcc
            obtain ⟨⟨huy, hb⟩, hl⟩ := hcc
            have hne : ys ≠ [] := by simpa using hys
            have hyl : 0 < ys.length := List.length_pos_iff.2 hne
            have huys : ∀ r ∈ ys, r.length = szOf P e := uni_spec huy
            rw [hye] at hyv
            obtain ⟨_, _, _, nv, n1, n2⟩ := hyv.rows huy
            obtain ⟨b3, o3, rfl, n3⟩ := n2 hne
            have hnvs : nv.size = ys.length * szOf P e := n1.1.trans (flat_len huys)
            have hnvl : nv.toList.length = ys.length * i.size := by rw [Array.length_toList, hnvs, his]
            have hnv1 : ∀ u ∈ nv.toList, u.oneCell' = true := fun u h => n1.2.1 u (by simpa using h)
            have hnvc : ∀ (j : Nat) (u : Value), nv.toList[j]? = some u → w.cell? ((⟨b3, o3, none⟩ : Addr).add j) = some u := fun j u h => by rw [Addr.add_lit]; exact (n3 j u (by simpa using h)).2
            have hue : ∀ r ∈ es, r.length = szOf P e := uni_spec hu
            have huall : ∀ r ∈ es.take n ++ ys, r.length = szOf P e := fun r hr => (List.mem_append.1 hr).elim (fun h => hue r (List.mem_of_mem_take h)) (huys r)
            have hlen : (es.take n ++ ys).length = n + ys.length := by rw [List.length_append, List.length_take, Nat.min_eq_left hn]
            have hbasnew : ∀ b1 ∈ bs, id < b1 → cloO (fun j => decide (j < b1)) (.arr (ver' + 1) (es.take n ++ ys)) = true := by
              intro b1 hb1 hlt1
              have h1 := hH.bas b1 hb1 id _ hlt1 hid
              have h2 := okPut_spec hput b1 hb1 hlt1
              simp only [cloO] at h1 ⊢
              rw [cloLL_append, cloLL_take es n h1, ← cloLL_flatten ys, h2]; rfl
            have hGle : ∀ (b' : Option Nat) (cap' sz' : Nat), GLe G (setG G id (.arr (ver' + 1) b' cap' sz')) := fun b' cap' sz' j g hg => by
              by_cases hj : j = id
              · subst hj
                rw [g1] at hg
                injection hg with hg
                subst hg
                exact ⟨.arr (ver' + 1) b' cap' sz', by simp [setG], by simp only [GO.le]; left; omega⟩
              · exact ⟨g, by simp [setG, hj, hg], g.le_refl⟩
            have hGA : ∀ (g0 : GO) id', id' ≠ id → setG G id g0 id' = G id' := fun g0 id' hne => by simp [setG, hne]
            have hGst : ∀ (g0 : GO) j, K.length ≤ j → setG G id g0 j = none := fun g0 j hj => by
              unfold setG; rw [if_neg (by omega)]; exact hH.gst j hj
            have hg7 : ∀ b', b = some b' → ∃ vals et, O b' = .obj id ∧ w.heap[b']? = some (.cells vals et (0, 0)) ∧ vals.size = cap * sz ∧ (∀ o, ¬ St b' o) ∧ Pre G w St es.flatten vals := g7
            have hss : es ≠ [] → sz = szOf P e := fun h => by
              obtain ⟨r0, hr0⟩ := List.exists_mem_of_ne_nil _ h
              rw [← g4 r0 hr0]; exact hue r0 hr0
            by_cases hroom : n + ys.length ≤ cap
            · have hes : es ≠ [] := fun h => by have := g5 h; omega
              have hsz := hss hes
              subst hsz
              cases b with
              | none => have := g6 rfl; omega
              | some b =>
                obtain ⟨vals, et, q1, q2, q3, q4, q5⟩ := hg7 b rfl
                have hfit : n * i.size + nv.toList.length ≤ vals.size := by
                  rw [hnvl, q3, ← Nat.add_mul, his]
                  exact Nat.mul_le_mul_right _ hroom
                have hrun := fun ty => run_append_in (P := P) (w := w) t ty e et i hte' hi b n cap vals q2 ⟨b3, o3, none⟩ ys.length c2 nv.toList hnvl hnvc hnv1 hroom hfit
                generalize hA : (vals.toList.take (n * i.size) ++ nv.toList ++ vals.toList.drop (n * i.size + nv.toList.length)).toArray = arr at hrun
                have hget : ∀ k, arr[k]? = if k < n * szOf P e then vals[k]? else if k < n * szOf P e + ys.length * szOf P e then nv[k - n * szOf P e]? else vals[k]? := fun k => by
                  rw [← Array.getElem?_toList, ← hA]
                  have := splice_get vals.toList (n * i.size) nv.toList (by rw [Array.length_toList (xs := vals)]; exact hfit) k
                  unfold splice at this
                  simp only [Array.getElem?_toList] at this ⊢
                  rw [this, hnvl, his]
                have hasz : arr.size = vals.size := by
                  have h1 : arr.size = arr.toList.length := Array.length_toList.symm
                  rw [h1, ← hA]
                  have h2 : vals.toList.length = vals.size := Array.length_toList
                  simp only [List.length_append, List.length_take, List.length_drop]
                  omega
                have hstab : Stab w (w.setRow b arr) St := setRow_stab q4
                have hpre : Pre G w St (es.take n ++ ys).flatten arr := by
                  have hl1 : (es.take n).flatten.length = n * szOf P e := by rw [flat_len (fun x hx => hue x (List.mem_of_mem_take hx)), List.length_take, Nat.min_eq_left hn]
                  refine ⟨by rw [flat_len huall, hlen, hasz, q3]; exact Nat.mul_le_mul_right _ hroom, fun k c v hc hv => ?_⟩
                  rw [List.flatten_append] at hc
                  rw [hget] at hv
                  by_cases h1 : k < n * szOf P e
                  · rw [if_pos h1] at hv
                    rw [List.getElem?_append_left (by rw [hl1]; exact h1), flat_take n hue, List.getElem?_take_of_lt h1] at hc
                    exact q5.2 k c v hc hv
                  · rw [if_neg h1] at hv
                    rw [List.getElem?_append_right (by rw [hl1]; omega), hl1] at hc
                    have h2 : k - n * szOf P e < ys.flatten.length := (List.getElem?_eq_some_iff.1 hc).1
                    rw [flat_len huys] at h2
                    rw [if_pos (by omega)] at hv
                    exact ⟨n1.2.2 _ c v hc hv, n1.2.1 v (Array.mem_of_getElem? hv)⟩
                unfold Oper.wp
                rw [exec_append hop (v := .slice (some ⟨b, 0, none⟩) (n + ys.length) cap) (w' := w.setRow b arr) fun ty => by
                  rw [hρ, hye]; simp only [arrVal, Option.map_some, Nat.zero_mul, Nat.sub_zero]; exact hrun ty, Oper.upon_value]
                refine hK _ (w.setRow b arr) (setG G id (.arr (ver' + 1) (some b) cap (szOf P e))) St O ?_ ?_ ?_ (hGle _ _ _)
                · refine hH.turnA id _ (hGle _ _ _) (hGA _) (hGst _) hstab (fun _ _ h => h) (fun b1 id1 hne1 hb1 => ⟨rfl, setRow_other w b b1 arr fun h => ?_, fun _ h => h⟩) ?_ (fun c h => by rw [setRow_size]; exact hH.low c h) (fun c o h => by rw [setRow_size]; exact hH.stl c o h) hbasnew
                  · subst h
                    rcases hb1 with h1 | ⟨j, h1⟩
                    · rw [q1] at h1; injection h1 with h1; exact hne1 h1.symm
                    · rw [q1] at h1; cases h1
                  · refine OR.of_row (b := some b) (cap := cap) (sz := szOf P e) (by simp [setG]) g2 (by rw [hlen]; exact hroom) huall (fun h => absurd h (by simp [hne])) (by simp) fun b' hb' => ?_
                    injection hb' with hb'
                    subst hb'
                    exact ⟨arr, et, q1, setRow_heap w b vals arr et (0, 0) q2, by rw [hasz, q3], q4, hpre.mono (hGle _ _ _) hstab (fun _ _ h => h)⟩
                · refine EI.put_dst (hE.weak.keep (hGle _ _ _) hstab (fun _ _ h => h) fun b1 hb1 => ⟨rfl, setRow_other w b b1 arr (fun h => by subst h; rw [q1] at hb1; exact hb1), fun _ h => h⟩) ?_ (fun es t _ h => by cases h) ht
                  exact .arr id (ver' + 1) 0 (n + ys.length) (ver' + 1) (some b) cap (szOf P e) _ (by simp [setG]) (Nat.le_refl _) (fun _ => by simp [arrVal]) rfl
                · exact ⟨rfl, rfl, rfl, by rw [setRow_size]; exact Nat.le_refl _, fun c hc h0 => setRow_other w b c arr (fun h => by subst h; rw [q1] at h0; cases h0), hstab, fun _ _ h => h, fun _ _ h => .inl h, fun c hc => .inl hc⟩
            · have hg : cap < n + ys.length := by omega
              have h63 : ((n + ys.length : Nat) : Int) ≤ 9223372036854775807 := by omega
              have hfit : Builtin.nextslicecap (n + ys.length) cap * i.bytes ≤ 281474976710656 := growslice_fits hg (by rw [hib]; exact hb)
              -- the old cells
              obtain ⟨olds, ho1, hrun⟩ : ∃ olds : Array Value, Cells G w St (es.take n).flatten olds ∧ ∀ ty, (Builtin.append_ #[t, t] ty #[a.eval x, .slice (some ⟨b3, o3, none⟩) ys.length c2]).run P w =
                  .ok (.slice (some ⟨w.heap.size, 0, none⟩) (n + ys.length) (grownCap w (n + ys.length) cap e)) (w.drew.alloc (.cells (olds ++ nv ++ Builtin.zeroCells z.cells (grownCap w (n + ys.length) cap e - (n + ys.length))) e)) := by
                cases b with
                | none =>
                  have hc0 := g6 rfl
                  have he0 : es = [] := List.length_eq_zero_iff.1 (by omega)
                  subst he0
                  have hn0 : n = 0 := by simpa using hn
                  subst hn0
                  refine ⟨#[], ⟨rfl, fun v hv => by simp at hv, fun i x u h => by simp at h⟩, fun ty => ?_⟩
                  have := run_append_nil (P := P) w t ty e i z hte' hi hiz ⟨b3, o3, none⟩ ys.length c2 nv.toList hnvl hnvc hyl (by simpa using h63) (by
                    have := hfit
                    simp only [Nat.zero_add, hc0, nextslicecap_zero hyl] at this
                    exact this)
                  rw [hρ, hc0]
                  simpa [arrVal] using this
                | some b =>
                  obtain ⟨vals, et, q1, q2, q3, q4, q5⟩ := hg7 b rfl
                  have hfl : 0 + n * sz ≤ es.flatten.length := by rw [flat_len g4, Nat.zero_add]; exact Nat.mul_le_mul_right _ hn
                  have hcut := Cells.cut q5 hfl
                  rw [List.drop_zero, ← flat_take n g4] at hcut
                  refine ⟨_, hcut, fun ty => ?_⟩
                  have hos : (vals.extract 0 (0 + n * sz)).toList.length = n * i.size := by
                    rw [Array.length_toList, hcut.1, flat_len (fun x hx => hue x (List.mem_of_mem_take hx)), List.length_take, Nat.min_eq_left hn, his]
                  have := run_append_grow (P := P) w t ty e i z hte' hi hiz ⟨b, 0, none⟩ n cap _ hos (fun j v hj => by
                    rw [Addr.add_lit, cell_of_row _ _ _ _ _ _ q2]
                    have hj' : (vals.extract 0 (0 + n * sz))[j]? = some v := by rw [← Array.getElem?_toList]; exact hj
                    rw [Array.getElem?_extract] at hj'
                    split at hj'
                    · exact hj'
                    · cases hj') ⟨b3, o3, none⟩ ys.length c2 nv.toList hnvl hnvc hg h63 hfit
                  rw [hρ]
                  simp only [arrVal, Option.map_some, Nat.zero_mul, Nat.sub_zero]
                  rw [this]
              have hcat : Cells G w St (es.take n ++ ys).flatten (olds ++ nv) := by rw [List.flatten_append]; exact ho1.append n1
              have hosz : (olds ++ nv).size = (n + ys.length) * szOf P e := by rw [hcat.1, flat_len huall, hlen]
              generalize hW : w.drew.alloc (.cells (olds ++ nv ++ Builtin.zeroCells z.cells (grownCap w (n + ys.length) cap e - (n + ys.length))) e) = w1 at hrun
              have hcge : n + ys.length ≤ grownCap w (n + ys.length) cap e := grownCap_ge w _ cap e
              have hnew : w1.heap[w.heap.size]? = some (.cells (olds ++ nv ++ Builtin.zeroCells z.cells (grownCap w (n + ys.length) cap e - (n + ys.length))) e (0, 0)) := by rw [← hW]; exact heap_alloc_new w.drew _
              have hold : ∀ b, b < w.heap.size → w1.heap[b]? = w.heap[b]? := fun b hb => by rw [← hW]; exact heap_alloc_old w.drew _ b hb
              have hsize : w1.heap.size = w.heap.size + 1 := by rw [← hW]; simp
              have hos3 : w1.os = w.os ∧ w1.tape = w.tape ∧ w1.output = w.output := by rw [← hW]; exact ⟨rfl, rfl, rfl⟩
              have hstab : Stab w w1 St := fun b o hb => by
                have hh := hold b (hH.stl b o hb)
                exact ⟨World.cell?_of_block (w := w) (a := ⟨b, o, none⟩) hh, fun es c he => hh.trans he⟩
              unfold Oper.wp
              rw [exec_append hop (v := .slice (some ⟨w.heap.size, 0, none⟩) (n + ys.length) (grownCap w (n + ys.length) cap e)) (w' := w1) fun ty => by rw [hye]; exact hrun ty, Oper.upon_value]
              refine hK _ w1 (setG G id (.arr (ver' + 1) (some w.heap.size) (grownCap w (n + ys.length) cap e) (szOf P e))) St (setO O w.heap.size (.obj id)) ?_ ?_ ?_ (hGle _ _ _)
              · refine hH.turnA id _ (hGle _ _ _) (hGA _) (hGst _) hstab (fun _ _ h => h) (fun b1 id1 hne1 hb1 => ?_) ?_ (fun c h => ?_) (fun c o h => by rw [hsize]; have := hH.stl c o h; omega) hbasnew
                · have hlt := hH.low b1 (by intro h0; rw [h0] at hb1; rcases hb1 with h | ⟨_, h⟩ <;> cases h)
                  exact ⟨by unfold setO; rw [if_neg (by omega)], hold b1 hlt, fun _ h => h⟩
                · refine OR.of_row (b := some w.heap.size) (cap := grownCap w (n + ys.length) cap e) (sz := szOf P e) (by simp [setG]) (Nat.pos_of_ne_zero hz0) (by rw [hlen]; exact hcge) huall (fun h => absurd h (by simp [hne])) (by simp) fun b' hb' => ?_
                  injection hb' with hb'
                  subst hb'
                  refine ⟨_, _, by simp [setO], hnew, ?_, fun o hs => Nat.lt_irrefl _ (hH.stl _ o hs), ?_, fun k c v hc hv => ?_⟩
                  · rw [Array.size_append, hosz, size_zeroC, hzs, ← Nat.add_mul]; congr 1; omega
                  · rw [Array.size_append, flat_len huall, hlen, hosz]; omega
                  · have hkl : k < (olds ++ nv).size := by rw [hcat.1]; exact (List.getElem?_eq_some_iff.1 hc).1
                    rw [Array.getElem?_append_left hkl] at hv
                    exact ⟨(hcat.2.2 k c v hc hv).mono (hGle _ _ _) hstab (fun _ _ h => h), hcat.2.1 v (Array.mem_of_getElem? hv)⟩
                · rw [hsize]
                  unfold setO at h
                  split at h
                  · omega
                  · have := hH.low c h; omega
              · refine EI.put_dst (hE.weak.keep (hGle _ _ _) hstab (fun _ _ h => h) fun b1 hb1 => ?_) ?_ (fun es t _ h => by cases h) ht
                · have hlt := hH.low b1 (by intro h0; rw [h0] at hb1; exact hb1)
                  exact ⟨by unfold setO; rw [if_neg (by omega)], hold b1 hlt, fun _ h => h⟩
                · exact .arr id (ver' + 1) 0 (n + ys.length) (ver' + 1) (some w.heap.size) (grownCap w (n + ys.length) cap e) (szOf P e) _ (by simp [setG]) (Nat.le_refl _) (fun _ => by simp [arrVal]) rfl
              · refine ⟨hos3.1, hos3.2.1, hos3.2.2, by rw [hsize]; omega, fun c hc _ => hold c hc, hstab, fun _ _ h => h, fun _ _ h => .inl h, fun c hc => ?_⟩
                unfold setO at hc
                split at hc
                · right; omega
                · left; exact hc
          · cases hk
      · cases hk
    · cases hk
end Go.VM
